/-
  Joined texts: LevQ, LevG, LevW.
-/
import Derived.Test.YthchfdobdghdoaaGreatHbn
import Derived.Test.YthchfdobdghdoaaGreatHax
import Derived.Test.YthchfdobdghdoaaGreatHay
import Derived.Test.YthchfdobdghdoaaGreatHbe
import Derived.Deep.DeepCutAuto
import Derived.Deep.CutRange
set_option linter.unusedVariables false
set_option linter.unusedSimpArgs false
set_option linter.unusedSectionVars false
set_option linter.unnecessarySimpa false
section

/-
  A level's dealing, in plain Lean.
-/
namespace Go.Sg
open Go Go.RowKit Go.Sg.Rws
/-- the table's cells with their keys -/
def tab1 (c : Lc) (fr : Int) (T : Nat → List Int) (i : Nat) : List Int := (T i).set 11 (key1 (depthI c.1) (placesD (lcSh c)) c.1 fr i (T i))
/-- .. in order -/
def tab2 (c : Lc) (fr : Int) (T : Nat → List Int) : List (List Int) := cxs (kf 11) (updL (tab1 c fr T) (lcTab c).toNat) (netI (lcTab c))
/-- what is dealt -/
def itsL (c : Lc) (fr : Int) (T : Nat → List Int) : List Di := ((tab2 c fr T).take (placesD (lcSh c)).toNat).map (itC c.1 fr)
def tab3 (c : Lc) (fr : Int) (T : Nat → List Int) (i : Nat) : List Int := cell2 (placesD (lcSh c)) (dealP (lcSh c) (itsL c fr T)) (dealLost (lcSh c) (itsL c fr T)) i ((tab2 c fr T).getD i zeros)
/-- where they go -/
def tab4 (c : Lc) (fr : Int) (T : Nat → List Int) : List (List Int) := cxs (kf 11) (updL (tab3 c fr T) (lcTab c).toNat) (netI (lcTab c))
def lostL (c : Lc) (fr : Int) (T : Nat → List Int) : List Int := dealLost (lcSh c) (itsL c fr T)
/-- a dealing's looks -/
def dealEv (r : Int) (c : Lc) : List Ev := writesL r (lcTab c).toNat ++ evsR r (lcTab c) ++ writesL r (lcTab c).toNat ++ evsR r (lcTab c)
def dealM (M : Mm) (r : Int) (c : Lc) (fr : Int) (T : Nat → List Int) : Mm := (M.fill r (tab4 c fr T)).noted (dealEv r c)
/-- the table as it stands ahead -/
structure TabOk (c : Lc) (T : Nat → List Int) : Prop where
  cell : ∀ i, i < (lcTab c).toNat → CellOk c.1 (T i)
theorem getD_set {c : List Int} (h : c.length = 12) (x : Int) (k : Nat) (hk : k < 11) : (c.set 11 x).getD k 0 = c.getD k 0 := by
  rw [List.getD_eq_getElem?_getD, List.getD_eq_getElem?_getD, List.getElem?_set_ne (by omega)]
theorem getD_set11 {c : List Int} (h : c.length = 12) (x : Int) : (c.set 11 x).getD 11 0 = x := by
  rw [List.getD_eq_getElem?_getD, List.getElem?_set_self (by omega)]
  rfl
theorem itC_set {c : List Int} (h : c.length = 12) (x L fr : Int) : itC L fr (c.set 11 x) = itC L fr c := by
  unfold itC
  rw [getD_set h x 0 (by omega), getD_set h x 1 (by omega), getD_set h x 2 (by omega)]
theorem itC_bd {L fr : Int} {c : List Int} (hfr : hasB L fr = true) (hc : CellOk L c) (h1 : c.getD 0 0 = 1) : 0 ≤ (itC L fr c).2 ∧ (itC L fr c).2 ≤ depthI L ∧ 0 ≤ (itC L fr c).1 ∧ (itC L fr c).1 ≤ 2147483648 := by
  have h := hc.2.2 h1
  have h2 := deepI_bd hfr h.2.2
  unfold itC
  rw [if_pos h1]
  exact ⟨h2.1, h2.2, h.1, h.2.1⟩
theorem key1_bd {L fr n : Int} {c : List Int} (hfr : hasB L fr = true) (hc : CellOk L c) {i : Nat} (hi : i ≤ 1024) : 0 ≤ key1 (depthI L) n L fr i c ∧ key1 (depthI L) n L fr i c < 4611686018427389000 := by
  have hD := depthI_bd L
  unfold key1
  split
  · rename_i h
    have := itC_bd hfr hc h.2
    omega
  · omega
theorem set_ok {c : List Int} (h : c.length = 12 ∧ ∀ x ∈ c, Word x) {y : Int} (hy : Word y) : (c.set 11 y).length = 12 ∧ ∀ x ∈ c.set 11 y, Word x := by
  refine ⟨by rw [List.length_set]; exact h.1, fun x hx => ?_⟩
  rcases List.mem_or_eq_of_mem_set hx with h1 | h1
  · exact h.2 x h1
  · rw [h1]; exact hy
theorem tab1_ok {c : Lc} {fr : Int} {T : Nat → List Int} (hfr : hasB c.1 fr = true) (hT : TabOk c T) {i : Nat} (hi : i < (lcTab c).toNat) : (tab1 c fr T i).length = 12 ∧ ∀ x ∈ tab1 c fr T i, Word x := by
  have hc := hT.cell i hi
  have hb := lcTab_bd c
  have hk := key1_bd (n := placesD (lcSh c)) hfr hc (i := i) (by omega)
  exact set_ok ⟨hc.1, hc.2.1⟩ ⟨hk.1, by omega⟩
/-- rows are told apart by their keys -/
theorem row_inj {L fr n : Int} {a b : List Int} {i j : Nat} (hfr : hasB L fr = true) (ha : CellOk L a) (hb : CellOk L b) (h : key1 (depthI L) n L fr i a = key1 (depthI L) n L fr j b) (hij : i = j → a = b) :
    rowC (depthI L) n L fr i a = rowC (depthI L) n L fr j b := by
  have hD := depthI_bd L
  unfold rowC
  rw [h]
  congr 1
  unfold key1 at h
  by_cases h1 : (i : Int) < n ∧ a.getD 0 0 = 1
  · rw [if_pos h1] at h
    have p1 := itC_bd hfr ha h1.2
    by_cases h2 : (j : Int) < n ∧ b.getD 0 0 = 1
    · rw [if_pos h2] at h
      have p2 := itC_bd hfr hb h2.2
      generalize itC L fr a = x at *
      generalize itC L fr b = y at *
      obtain ⟨x1, x2⟩ := x
      obtain ⟨y1, y2⟩ := y
      simp only at *
      have e : x2 = y2 := by omega
      subst e
      congr 1
      omega
    · rw [if_neg h2] at h
      omega
  · rw [if_neg h1] at h
    by_cases h2 : (j : Int) < n ∧ b.getD 0 0 = 1
    · rw [if_pos h2] at h
      have p2 := itC_bd hfr hb h2.2
      omega
    · rw [if_neg h2] at h
      have e : i = j := by omega
      rw [hij e]
theorem rows_its {c : Lc} {fr : Int} {T : Nat → List Int} (hfr : hasB c.1 fr = true) (hT : TabOk c T) {R : List Rt} (hp : R.Perm ((List.range (lcTab c).toNat).map (fun i => rowC (depthI c.1) (placesD (lcSh c)) c.1 fr i (T i)))) (hs : R.Pairwise (fun x y => x.1 ≤ y.1)) :
    R.map (·.2) = (tab2 c fr T).map (itC c.1 fr) := by
  obtain ⟨t, ht, et, _⟩ := lcTab_pow c
  have ec : (2 : Int) ^ t = ((2 ^ t : Nat) : Int) := by push_cast; rfl
  have etn : (lcTab c).toNat = 2 ^ t := by rw [et, ec, Int.toNat_natCast]
  have hr := (lcTab_bd c).2.2.2
  have hnet : netI (lcTab c) = netP (2 ^ t) t := by
    rw [et, ec]
    exact netI_pow (t := t) (by omega)
  obtain ⟨P2, hP2⟩ : ∃ P2 : List Rt, P2 = (tab2 c fr T).map (fun x => (x.getD 11 0, itC c.1 fr x)) := ⟨_, rfl⟩
  have hrows : (updL (tab1 c fr T) (lcTab c).toNat).map (fun x => (x.getD 11 0, itC c.1 fr x)) = (List.range (lcTab c).toNat).map (fun i => rowC (depthI c.1) (placesD (lcSh c)) c.1 fr i (T i)) := by
    unfold updL
    rw [List.map_map]
    refine List.map_congr_left fun i hi => ?_
    have hc := hT.cell i (List.mem_range.1 hi)
    simp only [Function.comp]
    unfold tab1 rowC
    rw [getD_set11 hc.1, itC_set hc.1]
  have hperm : P2.Perm ((List.range (lcTab c).toNat).map (fun i => rowC (depthI c.1) (placesD (lcSh c)) c.1 fr i (T i))) := by
    rw [hP2, ← hrows]
    exact (cxs_perm _ _ _).map _
  have hsorted : P2.Pairwise (fun x y => x.1 ≤ y.1) := by
    rw [hP2, List.pairwise_map]
    have h := net_sorted (kf 11) (r := t) (l := updL (tab1 c fr T) (lcTab c).toNat) (by rw [updL_len, etn])
    rw [← hnet] at h
    have h2 : ∀ x ∈ tab2 c fr T, 0 ≤ x.getD 11 0 := by
      intro x hx
      have hx2 := (cxs_perm _ _ _).mem_iff.1 hx
      obtain ⟨i, hi, rfl⟩ := List.mem_map.1 hx2
      have hi2 := List.mem_range.1 hi
      have hc := hT.cell i hi2
      have hb := lcTab_bd c
      have := key1_bd (n := placesD (lcSh c)) hfr hc (i := i) (by omega)
      unfold tab1
      rw [getD_set11 hc.1]
      exact this.1
    exact h.imp_of_mem fun {x y} hx hy hxy => by
      have h3 := h2 x hx
      have h4 := h2 y hy
      unfold kf at hxy
      show x.getD 11 0 ≤ y.getD 11 0
      omega
  have he : R = P2 := by
    refine List.Perm.eq_of_pairwise (le := fun x y => x.1 ≤ y.1) (fun a b ha hb h1 h2 => ?_) hs hsorted (hp.trans hperm.symm)
    obtain ⟨i, hi, rfl⟩ := List.mem_map.1 (hp.mem_iff.1 ha)
    obtain ⟨j, hj, rfl⟩ := List.mem_map.1 (hperm.mem_iff.1 hb)
    refine row_inj hfr (hT.cell i (List.mem_range.1 hi)) (hT.cell j (List.mem_range.1 hj)) ?_ (fun e => by rw [e])
    unfold rowC at h1 h2
    simp only at h1 h2
    omega
  rw [he, hP2, List.map_map]
  rfl
theorem runM_fill {M : Mm} {r : Int} (h0 : 0 ≤ r) {c : Lc} {cs : List (List Int)} (es : List Ev) (hl : cs.length = (lcTab c).toNat) (hs : (lcTab c).toNat ≤ M.size r) :
    runM ((M.fill r cs).noted es) r (lcTab c) 11 = (M.fill r (cxs (kf 11) cs (netI (lcTab c)))).noted (es ++ evsR r (lcTab c)) := by
  obtain ⟨t, ht, et, _⟩ := lcTab_pow c
  have hb := lcTab_bd c
  have ec : (2 : Int) ^ t = ((2 ^ t : Nat) : Int) := by push_cast; rfl
  have etn : (lcTab c).toNat = 2 ^ t := by rw [et, ec, Int.toNat_natCast]
  have hnet : netI (lcTab c) = netP (2 ^ t) t := by
    rw [et, ec]
    exact netI_pow (t := t) (by omega)
  have hok : runOk ((M.fill r cs).noted es) r (lcTab c) 11 = true := by
    unfold runOk
    rw [hb.2.2.2, Mm.noted_size, Mm.fill_size (by omega), decide_eq_false (by omega)]
    rfl
  unfold runM
  rw [if_pos hok, Mm.noted_srt, Mm.noted_noted]
  have hp : PrsOk cs.length (netI (lcTab c)) := by rw [hl, etn, hnet]; exact netP_ok t (Nat.le_refl t)
  rw [show (11 : Int).toNat = 11 from rfl, Mm.srt_fill hp]
theorem updM_fill {M : Mm} {r : Int} {cs : List (List Int)} {n : Nat} (es : List Ev) (f : Nat → List Int) (hl : cs.length = n) :
    updM ((M.fill r cs).noted es) r f n = (M.fill r (updL f n)).noted (es ++ writesL r n) := by
  unfold updM
  rw [Mm.noted_fill, Mm.noted_noted, Mm.fill_over (by rw [updL_len]; omega), updL_len, ← hl, List.drop_length, List.append_nil]
theorem tab2_len (c : Lc) (fr : Int) (T : Nat → List Int) : (tab2 c fr T).length = (lcTab c).toNat := by unfold tab2; rw [cxs_length, updL_len]
theorem tab4_len (c : Lc) (fr : Int) (T : Nat → List Int) : (tab4 c fr T).length = (lcTab c).toNat := by unfold tab4; rw [cxs_length, updL_len]
def deal1M (M : Mm) (r : Int) (c : Lc) (fr : Int) (T : Nat → List Int) : Mm := updM M r (tab1 c fr T) (lcTab c).toNat
def deal2M (M : Mm) (r : Int) (c : Lc) (fr : Int) (T : Nat → List Int) : Mm := (M.fill r (tab2 c fr T)).noted (writesL r (lcTab c).toNat ++ evsR r (lcTab c))
def deal3M (M : Mm) (r : Int) (c : Lc) (fr : Int) (T : Nat → List Int) : Mm := updM (deal2M M r c fr T) r (tab3 c fr T) (lcTab c).toNat
theorem deal2_run {M : Mm} {r : Int} (h0 : 0 ≤ r) (c : Lc) (fr : Int) (T : Nat → List Int) (hs : (lcTab c).toNat ≤ M.size r) : runM (deal1M M r c fr T) r (lcTab c) 11 = deal2M M r c fr T := by
  unfold deal1M updM
  rw [runM_fill h0 _ (updL_len _ _) hs]
  rfl
theorem deal4_run {M : Mm} {r : Int} (h0 : 0 ≤ r) (c : Lc) (fr : Int) (T : Nat → List Int) (hs : (lcTab c).toNat ≤ M.size r) : runM (deal3M M r c fr T) r (lcTab c) 11 = dealM M r c fr T := by
  unfold deal3M deal2M
  rw [updM_fill _ _ (tab2_len c fr T), runM_fill h0 _ (updL_len _ _) hs]
  rfl
theorem deal2_read {M : Mm} {r : Int} (h0 : 0 ≤ r) (c : Lc) (fr : Int) (T : Nat → List Int) (hs : (lcTab c).toNat ≤ M.size r) {i : Nat} (hi : i < (lcTab c).toNat) : (deal2M M r c fr T).read r (i : Int) = (tab2 c fr T).getD i zeros := by
  have hl := tab2_len c fr T
  unfold deal2M
  rw [Mm.noted_read, Mm.fill_read h0 (by omega) (by omega), dif_pos (by omega), List.getD_eq_getElem?_getD, List.getElem?_eq_getElem (by omega)]
  rfl
theorem deal2_size {M : Mm} {r : Int} (c : Lc) (fr : Int) (T : Nat → List Int) (hs : (lcTab c).toNat ≤ M.size r) (x : Int) : (deal2M M r c fr T).size x = M.size x := by
  unfold deal2M
  rw [Mm.noted_size, Mm.fill_size (by rw [tab2_len]; exact hs)]
theorem deal2_evs (M : Mm) (r : Int) (c : Lc) (fr : Int) (T : Nat → List Int) : (deal2M M r c fr T).evs.length ≤ M.evs.length + 2 * (lcTab c).toNat + 120000 := by
  unfold deal2M
  rw [Mm.noted_evs, Mm.fill_evs, List.length_append, List.length_append, writesL_len]
  have := Go.Proofs.YthchfdobdghdoaaGreat.evsR_len r (lcTab c)
  omega
theorem its_len {c : Lc} (fr : Int) (T : Nat → List Int) : ((itsL c fr T).length : Int) = placesD (lcSh c) := by
  have hb := lcTab_bd c
  have hp := placesD_bd (lcSh c)
  unfold itsL
  rw [List.length_map, List.length_take, tab2_len]
  omega
theorem tab2_ok {c : Lc} {fr : Int} {T : Nat → List Int} (hfr : hasB c.1 fr = true) (hT : TabOk c T) : ∀ x ∈ tab2 c fr T, x.length = 12 ∧ ∀ y ∈ x, Word y := by
  intro x hx
  obtain ⟨i, hi, rfl⟩ := List.mem_map.1 ((cxs_perm _ _ _).mem_iff.1 hx)
  exact tab1_ok hfr hT (List.mem_range.1 hi)
end Go.Sg
end
section

/-
  What an access gathers, and what it writes back, in plain Lean.
-/
namespace Go.Sg
open Go Go.RowKit
/-- has a cell this block? -/
def hitC (id : Int) (c : List Int) : Bool := decide (c.getD 0 0 = 1) && decide (c.getD 1 0 = id)
def offC (id : Int) (c : List Int) : List Int := if hitC id c then zeros else c
def dataC (c : List Int) : List Int := (c.drop 3).take 8
def zero8 : List Int := [0, 0, 0, 0, 0, 0, 0, 0]
/-- what is found in some cells -/
def oldL (id : Int) (cs : List (List Int)) : List Int × Bool := cs.foldl (fun s c => if hitC id c then (dataC c, true) else s) (zero8, false)
theorem oldL_snoc (id : Int) (cs : List (List Int)) (c : List Int) : oldL id (cs ++ [c]) = if hitC id c then (dataC c, true) else oldL id cs := by
  unfold oldL
  rw [List.foldl_append]
  rfl
theorem dataC_len {c : List Int} (h : c.length = 12) : (dataC c).length = 8 := by unfold dataC; rw [List.length_take, List.length_drop, h]; rfl
theorem oldL_ok (id : Int) : ∀ (cs : List (List Int)), (∀ c ∈ cs, c.length = 12 ∧ ∀ x ∈ c, Word x) → (oldL id cs).1.length = 8 ∧ ∀ x ∈ (oldL id cs).1, Word x := by
  intro cs h
  have gen : ∀ (cs : List (List Int)) (s : List Int × Bool), (∀ c ∈ cs, c.length = 12 ∧ ∀ x ∈ c, Word x) → (s.1.length = 8 ∧ ∀ x ∈ s.1, Word x) → ((cs.foldl (fun s c => if hitC id c then (dataC c, true) else s) s).1.length = 8 ∧ ∀ x ∈ (cs.foldl (fun s c => if hitC id c then (dataC c, true) else s) s).1, Word x) := by
    intro cs
    induction cs with
    | nil => intro s _ hs; exact hs
    | cons c cs ih =>
      intro s hc hs
      refine ih _ (fun x hx => hc x (List.mem_cons_of_mem _ hx)) ?_
      dsimp only
      split
      · have h1 := hc c (List.mem_cons_self)
        exact ⟨dataC_len h1.1, fun x hx => h1.2 x (List.mem_of_mem_drop (List.mem_of_mem_take hx))⟩
      · exact hs
  exact gen cs _ h ⟨rfl, fun x hx => by simp [zero8] at hx; rw [hx]; exact ⟨by decide, by decide⟩⟩
/-- the cell that a block is put into -/
def nowC (id lf : Int) (e : List Int × Bool) : List Int := if e.2 then blkC id lf e.1 else zeros
/-- the table, as it is gathered -/
def gatL (id lf : Int) (e : List Int × Bool) (cs : List (List Int)) : List (List Int) := cs.map (offC id) ++ [nowC id lf e]
def gatT (id lf : Int) (e : List Int × Bool) (cs : List (List Int)) (i : Nat) : List Int := (gatL id lf e cs).getD i zeros
theorem gatT_lt {id lf : Int} {e : List Int × Bool} {cs : List (List Int)} {i : Nat} (h : i < cs.length) : gatT id lf e cs i = offC id cs[i] := by
  unfold gatT gatL
  rw [List.getD_eq_getElem?_getD, List.getElem?_append_left (by rw [List.length_map]; exact h), List.getElem?_map, List.getElem?_eq_getElem h]
  rfl
theorem gatT_eq (id lf : Int) (e : List Int × Bool) (cs : List (List Int)) : gatT id lf e cs cs.length = nowC id lf e := by
  unfold gatT gatL
  rw [List.getD_eq_getElem?_getD, List.getElem?_append_right (by rw [List.length_map]; exact Nat.le_refl _), List.length_map, Nat.sub_self]
  rfl
theorem gatT_gt {id lf : Int} {e : List Int × Bool} {cs : List (List Int)} {i : Nat} (h : cs.length < i) : gatT id lf e cs i = zeros := by
  unfold gatT gatL
  rw [List.getD_eq_getElem?_getD, List.getElem?_eq_none (by rw [List.length_append, List.length_map, List.length_singleton]; omega)]
  rfl
theorem zeros_ok (L : Int) : CellOk L zeros := ⟨rfl, fun x hx => by simp [zeros] at hx; rw [hx]; exact ⟨by decide, by decide⟩, fun h => by simp [zeros] at h⟩
theorem blkC_ok {L id lf : Int} {d : List Int} (hL : L ≤ 1024) (h1 : 0 ≤ id ∧ id ≤ 2147483648) (hl : hasB L lf = true) (hlb : 0 ≤ lf ∧ lf < L) (hd : d.length = 8) (hw : ∀ x ∈ d, Word x) : CellOk L (blkC id lf d) := by
  refine ⟨by simp [blkC, hd], fun x hx => ?_, fun _ => ⟨h1.1, h1.2, hl⟩⟩
  simp only [blkC, List.mem_cons, List.mem_append, List.not_mem_nil, or_false] at hx
  rcases hx with rfl | rfl | rfl | hx | rfl
  · exact ⟨by decide, by decide⟩
  · exact ⟨by omega, by omega⟩
  · exact ⟨by omega, by omega⟩
  · exact hw x hx
  · exact ⟨by decide, by decide⟩
theorem offC_ok {L id : Int} {c : List Int} (h : CellOk L c) : CellOk L (offC id c) := by
  unfold offC
  split
  · exact zeros_ok L
  · exact h
theorem gatT_ok {L id lf : Int} {e : List Int × Bool} {cs : List (List Int)} (hc : ∀ c ∈ cs, CellOk L c) (hn : CellOk L (nowC id lf e)) (i : Nat) : CellOk L (gatT id lf e cs i) := by
  rcases Nat.lt_trichotomy i cs.length with h | h | h
  · rw [gatT_lt h]; exact offC_ok (hc _ (List.getElem_mem h))
  · rw [h, gatT_eq]; exact hn
  · rw [gatT_gt h]; exact zeros_ok L
/-- the looks of a gathering -/
def gatE (r : Int) (sp : List Sp) (k : Nat) : List Ev := (List.range k).flatMap (fun i : Nat => if h : i < sp.length then [(sp[i].1, sp[i].2, false), (r, (i : Int), true)] else [(r, (i : Int), true)])
theorem gatE_lt {r : Int} {sp : List Sp} {k : Nat} (h : k < sp.length) : gatE r sp (k + 1) = gatE r sp k ++ [(sp[k].1, sp[k].2, false), (r, (k : Int), true)] := by
  unfold gatE
  rw [List.range_succ, List.flatMap_append]
  simp [h]
theorem gatE_ge {r : Int} {sp : List Sp} {k : Nat} (h : sp.length ≤ k) : gatE r sp (k + 1) = gatE r sp k ++ [(r, (k : Int), true)] := by
  unfold gatE
  rw [List.range_succ, List.flatMap_append]
  simp [show ¬ k < sp.length by omega]
theorem gatE_len (r : Int) (sp : List Sp) (k : Nat) : (gatE r sp k).length ≤ 2 * k := by
  induction k with
  | zero => simp [gatE]
  | succ k ih =>
    rcases Nat.lt_or_ge k sp.length with h | h
    · rw [gatE_lt h, List.length_append]; simp; omega
    · rw [gatE_ge h, List.length_append]; simp; omega
def gatM (M : Mm) (r : Int) (sp : List Sp) (T : Nat → List Int) (k : Nat) : Mm := (M.fill r (updL T k)).noted (gatE r sp k)
variable {M : Mm} {r : Int} {sp : List Sp} {T : Nat → List Int}
theorem gatM_zero : gatM M r sp T 0 = M := by
  have : updL T 0 = [] := rfl
  unfold gatM
  rw [this, Mm.fill_nil]
  simp [gatE, Mm.noted]
theorem gatM_size {k : Nat} (h : k ≤ M.size r) (x : Int) : (gatM M r sp T k).size x = M.size x := by
  unfold gatM
  rw [Mm.noted_size, Mm.fill_size (by rw [updL_len]; exact h)]
theorem gatM_has {k : Nat} (h : k ≤ M.size r) (x a : Int) : (gatM M r sp T k).has x a = M.has x a := Mm.has_of_size (gatM_size h) x a
theorem gatM_read_other {k : Nat} (h : k ≤ M.size r) (h0 : 0 ≤ r) {x : Int} (hx : x ≠ r) (a : Int) : (gatM M r sp T k).read x a = M.read x a := by
  unfold gatM
  rw [Mm.noted_read, Mm.fill_read_other (by rw [updL_len]; exact h) h0 hx]
theorem gatM_read {k i : Nat} (h : k ≤ M.size r) (h0 : 0 ≤ r) (hi : i < k) : (gatM M r sp T k).read r (i : Int) = T i := by
  unfold gatM
  rw [Mm.noted_read, Mm.fill_read h0 (by rw [updL_len]; exact h) (by omega), dif_pos (by rw [updL_len]; exact hi)]
  simp [updL]
theorem gatM_evs (k : Nat) : (gatM M r sp T k).evs.length ≤ M.evs.length + 2 * k := by
  unfold gatM
  rw [Mm.noted_evs, Mm.fill_evs, List.length_append]
  have := gatE_len r sp k
  omega
theorem gatM_put {k : Nat} (h0 : 0 ≤ r) (hk : k < M.size r) : (M.fill r (updL T k)).put r (k : Int) (T k) = M.fill r (updL T (k + 1)) := by
  have e := Mm.fill_put (M := M) (cs := updL T k) h0 (by rw [updL_len]; exact hk) (T k)
  rw [updL_len] at e
  rw [e, ← updL_succ]
theorem gatM_stepA {k : Nat} (h0 : 0 ≤ r) (hk : k < M.size r) (hi : k < sp.length) (hh : M.has sp[k].1 sp[k].2 = true) : ((gatM M r sp T k).look sp[k].1 sp[k].2 false).write r (k : Int) (T k) = gatM M r sp T (k + 1) := by
  have hh2 : (gatM M r sp T k).has r (k : Int) = true := by rw [gatM_has (by omega)]; exact Mm.has_lt hk
  rw [Mm.look_noted (by rw [gatM_has (by omega)]; exact hh), Mm.write_noted (by rw [Mm.noted_has]; exact hh2)]
  unfold gatM
  rw [Mm.noted_put, Mm.noted_put, Mm.noted_noted, Mm.noted_noted, gatM_put h0 hk, gatE_lt hi]
  simp
theorem gatM_stepB {k : Nat} (h0 : 0 ≤ r) (hk : k < M.size r) (hi : sp.length ≤ k) : (gatM M r sp T k).write r (k : Int) (T k) = gatM M r sp T (k + 1) := by
  have hh2 : (gatM M r sp T k).has r (k : Int) = true := by rw [gatM_has (by omega)]; exact Mm.has_lt hk
  rw [Mm.write_noted hh2]
  unfold gatM
  rw [Mm.noted_put, Mm.noted_noted, gatM_put h0 hk, gatE_ge hi]
/-- cells are put, one behind the other -/
def putsM (M : Mm) (l : List (Sp × List Int)) : Mm := l.foldl (fun M x => M.put x.1.1 x.1.2 x.2) M
theorem putsM_snoc (M : Mm) (l : List (Sp × List Int)) (x : Sp × List Int) : putsM M (l ++ [x]) = (putsM M l).put x.1.1 x.1.2 x.2 := by
  unfold putsM
  rw [List.foldl_append]
  rfl
theorem putsM_size : ∀ (l : List (Sp × List Int)) (M : Mm) (x : Int), (putsM M l).size x = M.size x := by
  intro l
  induction l with
  | nil => intro M x; rfl
  | cons y l ih => intro M x; exact (ih _ x).trans (Mm.put_size _ _ _ _ _)
theorem putsM_evs : ∀ (l : List (Sp × List Int)) (M : Mm), (putsM M l).evs = M.evs := by
  intro l
  induction l with
  | nil => intro M; rfl
  | cons y l ih => intro M; exact ih _
theorem putsM_read_other : ∀ (l : List (Sp × List Int)) (M : Mm) {x a : Int}, (∀ y ∈ l, M.has y.1.1 y.1.2 = true ∧ ¬ (y.1.1 = x ∧ y.1.2 = a)) → (putsM M l).read x a = M.read x a := by
  intro l
  induction l with
  | nil => intro M x a _; rfl
  | cons y l ih =>
    intro M x a h
    have h1 := h y (List.mem_cons_self)
    refine (ih (M.put y.1.1 y.1.2 y.2) (fun z hz => ?_)).trans ?_
    · rw [Mm.put_has]; exact h z (List.mem_cons_of_mem _ hz)
    · rw [Mm.read_put y.2 h1.1, if_neg h1.2]
/-- what is written back -/
def bakL (sp : List Sp) (U : Nat → List Int) (k : Nat) : List (Sp × List Int) := (List.range k).map (fun i => (sp.getD i (0, 0), U i))
theorem bakL_succ (sp : List Sp) (U : Nat → List Int) (k : Nat) : bakL sp U (k + 1) = bakL sp U k ++ [(sp.getD k (0, 0), U k)] := by simp [bakL, List.range_succ]
def bakE (r : Int) (sp : List Sp) (k : Nat) : List Ev := (List.range k).flatMap (fun i : Nat => [(r, (i : Int), false), ((sp.getD i (0, 0)).1, (sp.getD i (0, 0)).2, true)])
theorem bakE_succ (r : Int) (sp : List Sp) (k : Nat) : bakE r sp (k + 1) = bakE r sp k ++ [(r, (k : Int), false), ((sp.getD k (0, 0)).1, (sp.getD k (0, 0)).2, true)] := by simp [bakE, List.range_succ]
theorem bakE_len (r : Int) (sp : List Sp) (k : Nat) : (bakE r sp k).length = 2 * k := by
  induction k with
  | zero => rfl
  | succ k ih => rw [bakE_succ, List.length_append, ih]; rfl
def bakM (M : Mm) (r : Int) (sp : List Sp) (U : Nat → List Int) (k : Nat) : Mm := (putsM M (bakL sp U k)).noted (bakE r sp k)
theorem bakM_zero {U : Nat → List Int} : bakM M r sp U 0 = M := by simp [bakM, bakL, bakE, putsM, Mm.noted]
theorem bakM_size {U : Nat → List Int} (k : Nat) (x : Int) : (bakM M r sp U k).size x = M.size x := by
  unfold bakM
  rw [Mm.noted_size, putsM_size]
theorem bakM_has {U : Nat → List Int} (k : Nat) (x a : Int) : (bakM M r sp U k).has x a = M.has x a := Mm.has_of_size (bakM_size k) x a
theorem bakM_evs {U : Nat → List Int} (k : Nat) : (bakM M r sp U k).evs.length = M.evs.length + 2 * k := by
  unfold bakM
  rw [Mm.noted_evs, putsM_evs, List.length_append, bakE_len]
theorem bakM_read {U : Nat → List Int} {k : Nat} (hk : k ≤ sp.length) (hs : ∀ s ∈ sp, M.has s.1 s.2 = true ∧ s.1 ≠ r) (a : Int) : (bakM M r sp U k).read r a = M.read r a := by
  unfold bakM
  rw [Mm.noted_read]
  refine putsM_read_other _ _ (fun y hy => ?_)
  obtain ⟨i, hi, rfl⟩ := List.mem_map.1 hy
  have hi' : i < sp.length := by have := List.mem_range.1 hi; omega
  have e : sp.getD i (0, 0) = sp[i] := by rw [List.getD_eq_getElem?_getD, List.getElem?_eq_getElem hi']; rfl
  simp only [e]
  have h := hs _ (List.getElem_mem hi')
  exact ⟨h.1, fun h2 => h.2 h2.1⟩
theorem bakM_step {U : Nat → List Int} {k : Nat} (hk : k < sp.length) (hs : ∀ s ∈ sp, M.has s.1 s.2 = true ∧ s.1 ≠ r) (hr : M.has r (k : Int) = true) : ((bakM M r sp U k).look r (k : Int) false).write sp[k].1 sp[k].2 (U k) = bakM M r sp U (k + 1) := by
  have e : sp.getD k (0, 0) = sp[k] := by rw [List.getD_eq_getElem?_getD, List.getElem?_eq_getElem hk]; rfl
  have h1 := (hs _ (List.getElem_mem hk)).1
  rw [Mm.look_noted (by rw [bakM_has]; exact hr), Mm.write_noted (by rw [Mm.noted_has, bakM_has]; exact h1)]
  unfold bakM
  rw [Mm.noted_put, Mm.noted_put, Mm.noted_noted, Mm.noted_noted, bakE_succ, bakL_succ, putsM_snoc, e]
  simp
/-- what an access makes of a memory -/
def accU (c : Lc) (fr : Int) (T : Nat → List Int) (i : Nat) : List Int := ((tab4 c fr T).getD i zeros).set 11 0
def accM (M : Mm) (first : Int) (c : Lc) (fr : Int) (T : Nat → List Int) : Mm :=
  bakM (dealM (gatM M (first + 2) (spL first c fr) T (lcTab c).toNat) (first + 2) c fr T) (first + 2) (spL first c fr) (accU c fr T) (spL first c fr).length
theorem spL_reg {first : Int} {c : Lc} {lf : Int} : ∀ s ∈ spL first c lf, s.1 = first ∨ s.1 = first + 1 := by
  intro s hs
  unfold spL at hs
  rcases List.mem_append.1 hs with h | h
  · obtain ⟨nd, _, h2⟩ := List.mem_flatMap.1 h
    obtain ⟨j, _, rfl⟩ := List.mem_map.1 h2
    exact .inl rfl
  · obtain ⟨j, _, rfl⟩ := List.mem_map.1 h
    exact .inr rfl
end Go.Sg
end
section

/-
  The walk of a level's deal.
-/
namespace Go.Sg
open Go Go.RowKit Go.Sg.Rws
/-- a level's cells -/
def lvV (c : Lc) (p : Nat) (first : Int) (over : Bool) (ib : Nat) : Array Value := #[.int .i64 c.1, .int .i64 c.2.1, .int .i64 c.2.2, .pointer (some ⟨p, 0, none⟩), .int .i64 first, .bool over, .map (some ib)]
def rowsL (c : Lc) (fr : Int) (T : Nat → List Int) (k : Nat) : List Rt := (List.range k).map (fun i => rowC (depthI c.1) (placesD (lcSh c)) c.1 fr i (T i))
theorem rowsL_len (c : Lc) (fr : Int) (T : Nat → List Int) (k : Nat) : (rowsL c fr T k).length = k := by simp [rowsL]
theorem rowsL_succ (c : Lc) (fr : Int) (T : Nat → List Int) (k : Nat) : rowsL c fr T (k + 1) = rowsL c fr T k ++ [rowC (depthI c.1) (placesD (lcSh c)) c.1 fr k (T k)] := by simp [rowsL, List.range_succ]
end Go.Sg
namespace Go.Proofs.YthchfdobdghdoaaGreat
open Go Go.RowKit Go.Sg Go.Sg.Rws
variable {w0 w : World} {p : Nat} {M : Mm} {D : Nat → Prop} {X : World → Prop}
theorem info_ditemW : (Tryz.prog.info? 144).map (fun i => (i.zero, i.size, i.bytes)) = some (some (.agg #[.int .u64 0, .int .i64 0]), 2, 16) := by kernel_rfl
theorem info_lcL (c : Lc) : (Tryz.prog.info? 23).map (·.size) = some [Value.int .i64 c.1, .int .i64 c.2.1, .int .i64 c.2.2].length := by kernel_rfl
theorem keeps_rows (br B : Nat) (TB TR : TypeId) (rv : Value) (m : Nat) (xs : List Value) : Keeps (fun k => k = br ∨ rv.ownBlock = some k) (fun w => Blk w br #[rv] TB ∧ w.ownsRow B TR 3 rv m xs) :=
  fun w w' hs hb ⟨h1, h2⟩ => ⟨blk_keepL h1 (hb br (.inl rfl)), own_keepL h2 (fun k hk => hb k (.inr hk))⟩
theorem cell0_int {w : World} {b : Nat} {x : Int} {t : TypeId} (h : Blk w b #[.int .i64 x] t) : w.cell? ⟨b, 0, none⟩ = some (.int .i64 x) := h.cell 0
/-- the side state while rows are kept: the rows' box, the rows -/
def StR (w0 : World) (p : Nat) (D : Nat → Prop) (X : World → Prop) (q : Nat) (lv : Array Value) (br : Nat) (xs : List Value) (n : Nat) (M : Mm) (w : World) : Prop :=
  ∃ rv, OneX 88 w0 w p M (fun k => (D k ∨ k = q) ∨ (k = br ∨ rv.ownBlock = some k)) (fun w => (X w ∧ Blk w q lv 92) ∧ (Blk w br #[rv] 142 ∧ w.ownsRow (br + 1) 147 3 rv n xs))
theorem StR.below {q br n : Nat} {lv : Array Value} {xs : List Value} (hK : Keeps D X) {w' : World} (h : StR w0 p D X q lv br xs n M w) (hb : Below w.heap.size w w') : StR w0 p D X q lv br xs n M w' := by
  obtain ⟨rv, h⟩ := h
  exact ⟨rv, h.below (keeps_and (keeps_and hK (keeps_blk q lv _)) (keeps_rows br (br + 1) _ _ rv n xs)) hb⟩
theorem StR.cells {q br n : Nat} {c : Lc} {first : Int} {over : Bool} {ib : Nat} {xs : List Value} (h : StR w0 p D X q (lvV c p first over ib) br xs n M w) : w.cell? ⟨q, 3, none⟩ = some (.pointer (some ⟨p, 0, none⟩)) ∧ w.cell? ⟨q, 4, none⟩ = some (.int .i64 first) := by
  obtain ⟨rv, h⟩ := h
  exact ⟨h.x.1.2.cell 3, h.x.1.2.cell 4⟩
theorem StR.read {q br n : Nat} {lv : Array Value} {xs : List Value} (hK : Keeps D X) (r a : Int) (h : StR w0 p D X q lv br xs n M w) (hN : M.evs.length ≤ 1099511627776) :
    Calls Tryz.prog 29 #[.pointer (some ⟨p, 0, none⟩), .int .i64 r, .int .i64 a] w fun e w' => e = .returned (.agg (cw (M.read r a))) ∧ StR w0 p D X q lv br xs n (M.look r a false) w' := by
  obtain ⟨rv, h⟩ := h
  exact (one_read (keeps_and (keeps_and hK (keeps_blk q lv _)) (keeps_rows br (br + 1) _ _ rv n xs)) r a h hN).mono fun e w' ⟨h1, h2⟩ => ⟨h1, rv, h2⟩
theorem StR.write {q br n : Nat} {lv : Array Value} {xs : List Value} (hK : Keeps D X) (r a : Int) (c : List Int) (hc : c.length = 12) (hw : ∀ x ∈ c, Word x) (h : StR w0 p D X q lv br xs n M w) (hN : M.evs.length ≤ 1099511627776) :
    Calls Tryz.prog 72 #[.pointer (some ⟨p, 0, none⟩), .int .i64 r, .int .i64 a, .agg (cw c)] w fun e w' => e = .returned (.tuple #[]) ∧ StR w0 p D X q lv br xs n (M.write r a c) w' := by
  obtain ⟨rv, h⟩ := h
  exact (one_write (keeps_and (keeps_and hK (keeps_blk q lv _)) (keeps_rows br (br + 1) _ _ rv n xs)) r a c hc hw h hN).mono fun e w' ⟨h1, h2⟩ => ⟨h1, rv, h2⟩
/-- the boxes of a dealing -/
def BxD (q : Nat) (fr nn : Int) (sh : Sh) (bl bf bs bn : Nat) (w : World) : Prop := Blk w bl #[.pointer (some ⟨q, 0, none⟩)] 37 ∧ Blk w bf #[.int .i64 fr] 3 ∧ Blk w bs #[.int .i64 sh.1, .int .i64 sh.2.1, .int .i64 sh.2.2] 83 ∧ Blk w bn #[.int .i64 nn] 3
/-- a round of the first update -/
theorem StR.round {q br bl bf bs bn : Nat} {c : Lc} {first fr : Int} {over : Bool} {ib i : Nat} {T : Nat → List Int} (hK : Keeps D X) (hc : LcOk c) (hr : lcRight c = true) (hfr : hasB c.1 fr = true) (hTi : CellOk c.1 (T i)) (hi : i ≤ 1024)
    (hx : ∀ w, X w → BxD q fr (placesD (lcSh c)) (lcSh c) bl bf bs bn w) (hD : ∀ k, D k → k < br) (hDw : ∀ k, D k → k ≠ q) (hqb : q < br) (hbw : w0.heap.size ≤ br) (h : StR w0 p D X q (lvV c p first over ib) br (flatV rtV (rowsL c fr T i)) i M w) :
    Calls Tryz.prog 88 #[.int .i64 i, .agg (cw (T i)), .pointer (some ⟨bl, 0, none⟩), .pointer (some ⟨bf, 0, none⟩), .pointer (some ⟨bn, 0, none⟩), .pointer (some ⟨bs, 0, none⟩), .pointer (some ⟨br, 0, none⟩)] w
      fun e w' => e = .returned (.agg (cw (tab1 c fr T i))) ∧ StR w0 p D X q (lvV c p first over ib) br (flatV rtV (rowsL c fr T (i + 1))) (i + 1) M w' := by
  obtain ⟨rv, h⟩ := h
  obtain ⟨b1, b2, b3, b4⟩ := hx w h.x.1.1
  have hp := placesD_bd (lcSh c)
  have hrl := rowsL_len c fr T i
  have ho : w.ownsRow (br + 1) 147 3 rv (rowsL c fr T i).length (flatV rtV (rowsL c fr T i)) := by rw [hrl]; exact h.x.2.2
  have hql := h.ltD q (.inl (.inr rfl))
  have hbl := h.ltD br (.inr (.inl rfl))
  refine (ldeal1_any c.1 fr (placesD (lcSh c)) hc.1 hfr (by omega) (T i) hTi i hi c.2.1 c.2.2 q bl bf bn bs br (br + 1) rv (rowsL c fr T i) (by omega) w (h.x.1.2.cell 0) hql b1 b2 b4 b3 h.x.2.1 ho (by omega) hbl).mono ?_
  rintro e w' ⟨rfl, rv', h1, h2, h3, h4⟩
  refine ⟨rfl, rv', ?_⟩
  rw [hrl, ← rowsL_succ] at h2
  refine OneX.swap (keeps_and hK (keeps_blk q _ _)) h (fun k hk he => ?_) (fun k hk => ?_) h3 (fun k hk => ?_) ⟨h1, h2⟩
  · have hk1 : k < br := by rcases hk with hk | hk; exact hD k hk; omega
    rcases he with he | he
    · omega
    · have := (ho.lt k he).1; omega
  · rcases hk with hk | hk
    · omega
    · have := (ho.lt k hk).1; omega
  · rcases hk with hk | hk
    · exact ⟨.inl (.inl hk), by rw [hk]; exact h1.lt⟩
    · refine ⟨?_, (h2.lt k hk).2⟩
      rcases h4 k hk with h5 | h5
      · exact .inl (.inr h5)
      · exact .inr h5
theorem keeps_range (b off : Nat) (xs : List Value) : Keeps (fun k => k = b) (fun w => w.rangeAt b off xs) := fun w w' _ hb hx j u hu => (World.cell?_of_block (w := w) (hb b rfl)).trans (hx j u hu)
theorem dealP_len {s : Sh} {l : List Di} (hs : rightD s = true) (hl : (l.length : Int) = placesD s) : ((dealP s l).length : Int) = placesD s := by
  have hf : fitD s l = true := by unfold fitD; rw [hs, decide_eq_true hl]; rfl
  unfold dealP
  rw [if_pos hf, fillL_len, List.length_map, List.length_range, hl]
theorem deal_bd {s : Sh} {l : List Di} (hs : rightD s = true) (hl : (l.length : Int) = placesD s) : ∀ x ∈ dealP s l, 0 ≤ x ∧ x ≤ 1024 := by
  intro x hx
  have hp := placesD_bd s
  have h := (deal_perm hs (n := l.length) hl rfl).mem_iff.1 hx
  rw [idx_mem] at h
  omega
/-- what a dealing tells, in boxes -/
def BxE (P1 : Nat) (v1 v2 : Value) (pl lost : List Int) (w : World) : Prop := Blk w P1 #[v1] 36 ∧ Blk w (P1 + 1) #[v2] 36 ∧ Sl1 w v1 (pl.map (Value.int .i64)) ∧ Sl1 w v2 (lost.map (Value.int .i64))
theorem Keeps.more {E : Nat → Prop} (h : Keeps D X) (hE : ∀ k, D k → E k) : Keeps E X := fun w w' hs hb hx => h w w' hs (fun k hk => hb k (hE k hk)) hx
theorem keeps_bxE {P0 P1 : Nat} {v1 v2 : Value} {pl lost : List Int} {w11 : World} (hP : w11.heap.size = P1) (h0 : P0 ≤ P1) (h1 : Sl1 w11 v1 (pl.map (Value.int .i64))) (h2 : Sl1 w11 v2 (lost.map (Value.int .i64))) (n1 : ∀ k, v1.ownBlock = some k → P0 ≤ k) (n2 : ∀ k, v2.ownBlock = some k → P0 ≤ k) :
    Keeps (fun k => P0 ≤ k ∧ k < P1 + 2) (BxE P1 v1 v2 pl lost) := by
  rintro x x' hs hb ⟨y1, y2, y3, y4⟩
  refine ⟨blk_keepL y1 (hb P1 ⟨h0, by omega⟩), blk_keepL y2 (hb (P1 + 1) ⟨by omega, by omega⟩), ?_, ?_⟩
  · exact keeps_sl1 v1 _ x x' hs (fun k hk => hb k ⟨n1 k hk.1, by have := sl1_own_lt h1 hk.2 k hk.1; omega⟩) y3
  · exact keeps_sl1 v2 _ x x' hs (fun k hk => hb k ⟨n2 k hk.1, by have := sl1_own_lt h2 hk.2 k hk.1; omega⟩) y4
theorem lvV_over (c : Lc) (p : Nat) (first : Int) (a b : Bool) (ib : Nat) : (lvV c p first a ib).setIfInBounds 5 (.bool b) = lvV c p first b ib := rfl
theorem tab3_ok {c : Lc} {fr : Int} {T : Nat → List Int} (hr : lcRight c = true) (hfr : hasB c.1 fr = true) (hT : TabOk c T) {i : Nat} (hi : i < (lcTab c).toNat) : (tab3 c fr T i).length = 12 ∧ ∀ x ∈ tab3 c fr T i, Word x := by
  have h2 := tab2_ok hfr hT
  have hl := tab2_len c fr T
  have hb := lcTab_bd c
  have hg : ((tab2 c fr T).getD i zeros).length = 12 ∧ ∀ x ∈ (tab2 c fr T).getD i zeros, Word x := by
    rw [List.getD_eq_getElem?_getD, List.getElem?_eq_getElem (by omega)]
    exact h2 _ (List.getElem_mem _)
  have hz : zeros.length = 12 ∧ ∀ x ∈ zeros, Word x := ⟨rfl, fun x hx => by simp [zeros] at hx; rw [hx]; exact ⟨by decide, by decide⟩⟩
  unfold tab3 cell2
  refine set_ok (by split; exact hz; exact hg) ?_
  unfold key2
  split
  · rename_i hin
    have hil := its_len (c := c) fr T
    have hpl := dealP_len (lcRight_iff hr).2 hil
    have hk : i < (dealP (lcSh c) (itsL c fr T)).length := by omega
    have := deal_bd (lcRight_iff hr).2 hil _ (List.getElem_mem hk)
    rw [List.getD_eq_getElem?_getD, List.getElem?_eq_getElem hk]
    exact ⟨by simpa using this.1, by have h := this.2; simp; omega⟩
  · exact ⟨by omega, by omega⟩
theorem lv_keep {A q V1 : Nat} {x y0 y1 y2 z0 z1 z2 : Value} {w4 w' : World} (h : ∀ w', Below w4.heap.size w4 w' → w'.cell? ⟨A, 0, none⟩ = some x ∧ w'.rangeAt q 0 [y0, y1, y2] ∧ w'.rangeAt V1 0 [z0, z1, z2]) (hb : Below w4.heap.size w4 w') :
    Below w4.heap.size w4 w' ∧ w'.cell? ⟨A, 0, none⟩ = some x ∧ w'.cell? ⟨q, 0, none⟩ = some y0 ∧ w'.cell? ⟨q, 1, none⟩ = some y1 ∧ w'.cell? ⟨q, 2, none⟩ = some y2 ∧ w'.cell? ⟨V1, 0, none⟩ = some z0 ∧ w'.cell? ⟨V1, 1, none⟩ = some z1 ∧ w'.cell? ⟨V1, 2, none⟩ = some z2 := by
  obtain ⟨h1, h2, h3⟩ := h w' hb
  exact ⟨hb, h1, h2 0 _ rfl, h2 1 _ rfl, h2 2 _ rfl, h3 0 _ rfl, h3 1 _ rfl, h3 2 _ rfl⟩
set_option maxHeartbeats 1000000 in
set_option maxRecDepth 100000 in
theorem row_cmp1 (x y : Rt) (w : World) : Calls Tryz.prog 92 #[.agg #[.int .u64 x.1, .int .u64 x.2.1, .int .i64 x.2.2], .agg #[.int .u64 y.1, .int .u64 y.2.1, .int .i64 y.2.2]] w fun e w' => e = .returned (.int .i64 (cmpZ x.1 y.1)) ∧ Below w.heap.size w w' := by
  have K := Lib.hid (fun w' => compareU_any x.1 y.1 w')
  obtain ⟨x1, x2, x3⟩ := x
  obtain ⟨y1, y2, y3⟩ := y
  have HB : Hid (Below w.heap.size w ((w.alloc (.cells #[.int .u64 x1, .int .u64 x2, .int .i64 x3] 147)).alloc (.cells #[.int .u64 y1, .int .u64 y2, .int .i64 y3] 147))) := Lib.hid (((Below.refl _ _).alloc (Nat.le_refl _) _).alloc (by simp) _)
  simp only at K ⊢
  generalize cmpZ x1 y1 = z at *
  go_enter Tryz.func92, Tryz.ntmps92
  go_wp2_with fail
  refine (K.out _).mono ?_
  rintro e w' ⟨rfl, rfl⟩
  go_wp2
  go_ret
  exact ⟨rfl, HB.out⟩
theorem row_cmp (S : Rt → Prop) (w0 : World) (G : Nat) : CmpOk Tryz.prog 92 #[] S (fun x y => decide (x.1 < y.1)) w0 G := by
  intro x y w _ _ _
  have h := row_cmp1 x y w
  rw [Array.append_empty]
  exact h.mono fun e w' ⟨h1, h2⟩ => ⟨_, h1, cmpZ_neg _ _, h2⟩
set_option maxHeartbeats 8000000 in
set_option maxRecDepth 100000 in
theorem ldeal_any (hK : Keeps D X) (c : Lc) (hc : LcOk c) (hr : lcRight c = true) (fr : Int) (hfr : hasB c.1 fr = true) (first : Int) (hf : 0 ≤ first ∧ first ≤ 1099511627776) (q ib : Nat) (over : Bool) (hq : ∀ k, D k → k ≠ q) (hqo : w0.heap.size ≤ q)
    (T : Nat → List Int) (hT : ∀ i, i < (lcTab c).toNat → M.read (first + 2) (i : Int) = T i) (hTo : TabOk c T) (hs : (lcTab c).toNat ≤ M.size (first + 2)) (hN : M.evs.length ≤ 1099510000000)
    (h : OneX 88 w0 w p M (fun k => D k ∨ k = q) (fun w => X w ∧ Blk w q (lvV c p first over ib) 92)) :
    Calls Tryz.prog 74 #[.pointer (some ⟨q, 0, none⟩), .int .i64 fr] w fun e w' => e = .returned (.tuple #[]) ∧
      OneX 88 w0 w' p (dealM M (first + 2) c fr T) (fun k => D k ∨ k = q) (fun w => X w ∧ Blk w q (lvV c p first (over || decide (0 < (lostL c fr T).length)) ib) 92) := by
  have HS := Lib.hid (fun w' => shape_any c hc w')
  have HP := Lib.hid (fun w' => places_any (lcSh c) w')
  have HT := Lib.hid (fun w' => table_any c hc w')
  have HX := Lib.hid h
  have hlv := h.x.2
  have hql := h.ltD q (.inr rfl)
  obtain ⟨A, hA⟩ : ∃ A, w.heap.size = A := ⟨_, rfl⟩
  obtain ⟨w2, hw2⟩ : ∃ w2, (w.alloc (.cells #[.pointer (some ⟨q, 0, none⟩)] 37)).alloc (.cells #[.int .i64 fr] 3) = w2 := ⟨_, rfl⟩
  have hb2 : Below w.heap.size w w2 := by rw [← hw2]; exact ((Below.refl _ _).alloc (Nat.le_refl _) _).alloc (by simp) _
  have k1 : Blk w2 A #[.pointer (some ⟨q, 0, none⟩)] 37 := by rw [← hw2, ← hA]; exact (Blk.new w _ _).alloc _
  have k2 : Blk w2 (A + 1) #[.int .i64 fr] 3 := by
    rw [← hw2, ← hA]
    have := Blk.new (w.alloc (.cells #[.pointer (some ⟨q, 0, none⟩)] 37)) #[.int .i64 fr] 3
    simpa using this
  have HB2 := Lib.hid hb2
  have K1 := Lib.hid k1
  have K2 := Lib.hid k2
  have HLV : Hid (∀ w', Below w.heap.size w w' → Blk w' q (lvV c p first over ib) 92) := Lib.hid fun w' hb => hlv.below hb hlv.lt
  have HIL := Lib.hid (info_lcL c)
  have lv2 := HLV.out w2 hb2
  have e0 : w2.cell? ⟨q, 0, none⟩ = some (.int .i64 c.1) := lv2.cell 0
  have e1 : w2.cell? ⟨q, 1, none⟩ = some (.int .i64 c.2.1) := lv2.cell 1
  have e2 : w2.cell? ⟨q, 2, none⟩ = some (.int .i64 c.2.2) := lv2.cell 2
  have a0 : w2.cell? ⟨A, 0, none⟩ = some (.pointer (some ⟨q, 0, none⟩)) := k1.cell 0
  have HAq : Hid (w.heap.size = A ∧ q < A) := Lib.hid ⟨hA, by omega⟩
  clear h hlv hql lv2 k1 k2 hb2
  go_enter Tryz.func74, Tryz.ntmps74
  go_wp2_with fail
  refine (HS.out _).mono ?_
  rintro e w3 ⟨rfl, hb3⟩
  obtain ⟨V1, hV1⟩ : ∃ V1, w3.heap.size = V1 := ⟨_, rfl⟩
  obtain ⟨w4, hw4⟩ : ∃ w4, w3.alloc (.cells #[.int .i64 (lcSh c).1, .int .i64 (lcSh c).2.1, .int .i64 (lcSh c).2.2] 83) = w4 := ⟨_, rfl⟩
  have hb34 : Below w3.heap.size w3 w4 := by rw [← hw4]; exact (Below.refl _ _).alloc (Nat.le_refl _) _
  have hb24 : Below w2.heap.size w2 w4 := hb3.trans (hb34.mono hb3.size)
  have k3 : Blk w4 V1 #[.int .i64 (lcSh c).1, .int .i64 (lcSh c).2.1, .int .i64 (lcSh c).2.2] 83 := by rw [← hw4, ← hV1]; exact Blk.new w3 _ _
  have HB4 : Hid (Below w.heap.size w w4) := Lib.hid (HB2.out.trans (hb24.mono HB2.out.size))
  have K1' := Lib.hid (K1.out.below hb24 K1.out.lt)
  have K2' := Lib.hid (K2.out.below hb24 K2.out.lt)
  have K3 := Lib.hid k3
  have HV1 : Hid (A + 1 < V1) := Lib.hid (by have := K2.out.lt; have := hb3.size; omega)
  clear HS K1 K2 HB2 hb3 hb34 hb24 k3 e0 e1 e2 a0 hw2
  go_upto_region 2 with fail
  obtain ⟨nn, hnn⟩ : ∃ nn, placesD (lcSh c) = nn := ⟨_, rfl⟩
  obtain ⟨tt, htt⟩ : ∃ tt, lcTab c = tt := ⟨_, rfl⟩
  rw [hnn] at HP
  rw [htt] at HT
  go_cut [5, 6] (fun o sv wx => ∃ V, o = .pointer (some ⟨V, 0, none⟩) ∧ sv = .int .i64 tt ∧ w4.heap.size ≤ V ∧ Hid (Blk wx V #[.int .i64 nn] 3) ∧ Hid (Below w4.heap.size w4 wx))
  case first =>
    have hd : Below w4.heap.size w4 w4.drew := (Below.refl _ _).drew
    have HC4 : Hid (∀ w', Below w4.heap.size w4 w' → w'.cell? ⟨A, 0, none⟩ = some (.pointer (some ⟨q, 0, none⟩)) ∧ w'.rangeAt q 0 [.int .i64 c.1, .int .i64 c.2.1, .int .i64 c.2.2] ∧ w'.rangeAt V1 0 [.int .i64 (lcSh c).1, .int .i64 (lcSh c).2.1, .int .i64 (lcSh c).2.2]) := Lib.hid fun w' hb => by
      have b1 := K1'.out.below hb K1'.out.lt
      have b2 := (HLV.out w4 HB4.out).below hb (HLV.out w4 HB4.out).lt
      have b3 := K3.out.below hb K3.out.lt
      refine ⟨b1.cell 0, fun j u hu => ?_, fun j u hu => ?_⟩
      · rw [Nat.zero_add, b2.cell]
        have hj : j < 3 := (List.getElem?_eq_some_iff.1 hu).1
        match j, hj with
        | 0, _ => exact hu
        | 1, _ => exact hu
        | 2, _ => exact hu
      · rw [Nat.zero_add, b3.cell]
        have hj : j < 3 := (List.getElem?_eq_some_iff.1 hu).1
        match j, hj with
        | 0, _ => exact hu
        | 1, _ => exact hu
        | 2, _ => exact hu
    have HI3 : Hid ((Tryz.prog.info? 83).map (·.size) = some [Value.int .i64 (lcSh c).1, .int .i64 (lcSh c).2.1, .int .i64 (lcSh c).2.2].length) := Lib.hid (by kernel_rfl)
    go_region_held3 (fun w' => Below w4.heap.size w4 w' ∧ w'.cell? ⟨A, 0, none⟩ = some (.pointer (some ⟨q, 0, none⟩)) ∧ w'.cell? ⟨q, 0, none⟩ = some (.int .i64 c.1) ∧ w'.cell? ⟨q, 1, none⟩ = some (.int .i64 c.2.1) ∧ w'.cell? ⟨q, 2, none⟩ = some (.int .i64 c.2.2) ∧ w'.cell? ⟨V1, 0, none⟩ = some (.int .i64 (lcSh c).1) ∧ w'.cell? ⟨V1, 1, none⟩ = some (.int .i64 (lcSh c).2.1) ∧ w'.cell? ⟨V1, 2, none⟩ = some (.int .i64 (lcSh c).2.2)) (first
        | (first | exact lv_keep HC4.out (by assumption) | exact lv_keep HC4.out (Below.alloc (by assumption) (Below.size (by assumption)) _) | exact lv_keep HC4.out (below_setCells (vs := [.int .i64 nn]) (Nat.le_refl _) 0 h2) | exact lv_keep HC4.out (below_setCells (vs := [.int .i64 nn]) h1.size 0 h2))) (first
      | (go_at_call 63; with_reducible refine (HP.out _).mono ?_; rintro e wa ⟨rfl, hba⟩; have h1 : Below w4.heap.size w4 wa := (by first | exact hd.trans (hba.mono hd.size) | exact (hd.alloc hd.size _).trans (hba.mono (hd.alloc hd.size _).size)); (try have z1 : Blk wa w4.heap.size #[.int .i64 0] 3 := (Blk.new w4.drew #[.int .i64 0] 3).below hba (Blk.new w4.drew #[.int .i64 0] 3).lt); (try have y1 : wa.cell? ⟨w4.heap.size, 0, none⟩ = some (.int .i64 0) := cell0_int z1); (try have x1 : wa.frozen? ⟨w4.heap.size, 0, none⟩ = false := z1.free 0))
      | (go_at_call 33; with_reducible refine (HT.out _).mono ?_; rintro e wb ⟨rfl, hbb⟩; have h2 : Below w4.heap.size w4 wb := (by first | exact h1.trans (hbb.mono h1.size) | exact (h1.alloc h1.size _).trans (hbb.mono (h1.alloc h1.size _).size) | exact (below_setCells (vs := [.int .i64 nn]) (hd.size) 0 h1).trans (hbb.mono (below_setCells (vs := [.int .i64 nn]) (hd.size) 0 h1).size)); (try have z2 : Blk wb wa.heap.size #[.int .i64 0] 3 := (Blk.new wa #[.int .i64 0] 3).below hbb (Blk.new wa #[.int .i64 0] 3).lt); (try have y2 : wb.cell? ⟨wa.heap.size, 0, none⟩ = some (.int .i64 0) := cell0_int z2); (try have x2 : wb.frozen? ⟨wa.heap.size, 0, none⟩ = false := z2.free 0); (try have z3 : Blk wb w4.heap.size #[.int .i64 0] 3 := z1.below hbb z1.lt); (try have y3 : wb.cell? ⟨w4.heap.size, 0, none⟩ = some (.int .i64 0) := cell0_int z3); (try have x3 : wb.frozen? ⟨w4.heap.size, 0, none⟩ = false := z3.free 0)))
    · have hz : Blk (wb.alloc (.cells #[.int .i64 nn] 3)) wb.heap.size #[.int .i64 nn] 3 := Blk.new wb _ _
      have hbz := h2.alloc h2.size (.cells #[.int .i64 nn] 3)
      have HZ := Lib.hid hz
      have HBZ := Lib.hid hbz
      have HVS := Lib.hid h2.size
      clear hz hbz h1 h2 hba hbb hd
      go_wp2_with fail
      go_meet
      exact ⟨_, rfl, rfl, HVS.out, HZ, HBZ⟩
    · have HZ : Hid (Blk (wb.setCell ⟨wa.heap.size, 0, none⟩ (.int .i64 nn)) wa.heap.size #[.int .i64 nn] 3) := Lib.hid (z2.set 0 (.int .i64 nn))
      have HBZ : Hid (Below w4.heap.size w4 (wb.setCell ⟨wa.heap.size, 0, none⟩ (.int .i64 nn))) := Lib.hid (below_setCells (vs := [.int .i64 nn]) h1.size 0 h2)
      have HVS := Lib.hid h1.size
      clear z2 y2 x2 h1 h2 hba hbb hd
      go_wp2_with fail
      go_meet
      exact ⟨_, rfl, rfl, HVS.out, HZ, HBZ⟩
    · have HZ : Hid (Blk (wb.setCell ⟨w4.heap.size, 0, none⟩ (.int .i64 nn)) w4.heap.size #[.int .i64 nn] 3) := Lib.hid (z3.set 0 (.int .i64 nn))
      have HBZ : Hid (Below w4.heap.size w4 (wb.setCell ⟨w4.heap.size, 0, none⟩ (.int .i64 nn))) := Lib.hid (below_setCells (vs := [.int .i64 nn]) (Nat.le_refl _) 0 h2)
      clear z3 y3 x3 z1 y1 x1 h1 h2 hba hbb hd
      go_wp2_with fail
      go_meet
      exact ⟨_, rfl, rfl, Nat.le_refl _, HZ, HBZ⟩
  case rest =>
  obtain ⟨V, rfl, rfl, hVs, HZ, HBZ⟩ := hcut
  generalize wc = w5 at *
  obtain ⟨br, hbr⟩ : ∃ br, w5.heap.size = br := ⟨_, rfl⟩
  obtain ⟨w6, hw6⟩ : ∃ w6, w5.alloc (.cells #[.slice none 0 0] 142) = w6 := ⟨_, rfl⟩
  have hbox : BxD q fr nn (lcSh c) A (A + 1) V1 V w5 := ⟨K1'.out.below HBZ.out K1'.out.lt, K2'.out.below HBZ.out K2'.out.lt, K3.out.below HBZ.out K3.out.lt, HZ.out⟩
  have hb5 : Below w.heap.size w w5 := HB4.out.trans (HBZ.out.mono HB4.out.size)
  have h5 := HX.out.ret (keeps_and hK (keeps_blk q (lvV c p first over ib) 92)) (E := fun k => A ≤ k ∧ k < br) (Y := BxD q fr nn (lcSh c) A (A + 1) V1 V) hb5 (fun k hk => by omega) hbox
  have hKbx : Keeps (fun k => A ≤ k ∧ k < br) (BxD q fr nn (lcSh c) A (A + 1) V1 V) := by
    rintro x x' hs hb ⟨y1, y2, y3, y4⟩
    have hA1 : A < br := by have := K1'.out.lt; have := HBZ.out.size; omega
    have hA2 : A + 1 < br := by have := K2'.out.lt; have := HBZ.out.size; omega
    have hV1' : V1 < br := by have := K3.out.lt; have := HBZ.out.size; omega
    have hV' : V < br := by have := HZ.out.lt; omega
    have hAV := HV1.out
    have hw4s := K1'.out.lt
    exact ⟨blk_keepL y1 (hb A ⟨Nat.le_refl _, hA1⟩), blk_keepL y2 (hb (A + 1) ⟨by omega, hA2⟩), blk_keepL y3 (hb V1 ⟨by omega, hV1'⟩), blk_keepL y4 (hb V ⟨by omega, hV'⟩)⟩
  obtain ⟨D1, hD1⟩ : ∃ D1 : Nat → Prop, D1 = fun k => D k ∨ (A ≤ k ∧ k < br) := ⟨_, rfl⟩
  obtain ⟨X1, hX1⟩ : ∃ X1 : World → Prop, X1 = fun w => X w ∧ BxD q fr nn (lcSh c) A (A + 1) V1 V w := ⟨_, rfl⟩
  have hK1 : Keeps D1 X1 := by rw [hD1, hX1]; exact keeps_and hK hKbx
  have h5' : OneX 88 w0 w5 p M (fun k => D1 k ∨ k = q) (fun w => X1 w ∧ Blk w q (lvV c p first over ib) 92) := by
    rw [hD1, hX1]
    refine h5.less (fun k hk => ?_) (fun hx => ⟨⟨hx.1.1, hx.2⟩, hx.1.2⟩)
    rcases hk with (hk | hk) | hk
    · exact .inl (.inl hk)
    · exact .inr hk
    · exact .inl (.inr hk)
  have hDq1 : ∀ k, D1 k → k ≠ q := fun k hk => by
    rw [hD1] at hk
    have := HAq.out
    rcases hk with hk | hk
    · exact hq k hk
    · omega
  have hDbr : ∀ k, D1 k → k < br := fun k hk => by rw [← hbr]; exact h5'.ltD k (.inl hk)
  have hqbr : q < br := by rw [← hbr]; exact h5'.ltD q (.inr rfl)
  have hw0br : w0.heap.size ≤ br := by rw [← hbr]; exact h5'.old.size
  have h6 : StR w0 p D1 X1 q (lvV c p first over ib) br (flatV rtV (rowsL c fr T 0)) 0 M w6 := by
    have hbx := h5'.box (keeps_and hK1 (keeps_blk q (lvV c p first over ib) 92)) #[.slice none 0 0] 142
    rw [hw6, hbr] at hbx
    refine ⟨.slice none 0 0, hbx.less (fun k hk => ?_) (fun hx => ⟨hx.1, hx.2, World.ownsRow_nil _ _ _ _⟩)⟩
    rcases hk with hk | hk
    · exact .inl hk
    · rcases hk with hk | hk
      · exact .inr hk
      · simp [Value.ownBlock] at hk
  have H6 := Lib.hid h6
  have HK1 := Lib.hid hK1
  have HXB : Hid (∀ w, X1 w → BxD q fr nn (lcSh c) A (A + 1) V1 V w) := Lib.hid (by rw [hX1]; exact fun _ h => h.2)
  have HXX : Hid ((∀ w, X1 w → X w) ∧ ∀ k, D k → D1 k) := Lib.hid (by rw [hX1, hD1]; exact ⟨fun _ h => h.1, fun _ h => .inl h⟩)
  have HD1 := Lib.hid (And.intro hDq1 (And.intro hDbr (And.intro hqbr hw0br)))
  have HNN := Lib.hid hnn
  have HTT := Lib.hid htt
  have HHF := Lib.hid hT
  have hbT := lcTab_bd c
  have hpT := placesD_bd (lcSh c)
  obtain ⟨sz, hsz⟩ : ∃ sz : Nat, lcTab c = sz := ⟨(lcTab c).toNat, by omega⟩
  have hts : tt = (sz : Int) := by rw [← htt, hsz]
  have hszN : (lcTab c).toNat = sz := by omega
  have HSZ := Lib.hid hszN
  have hsz256 : sz ≤ 256 := by omega
  have hnn153 : 0 ≤ nn ∧ nn ≤ 153 := by omega
  subst hts
  have HSI := Lib.hid hsz
  have KU := Lib.hid (lupdate1_any sz (by omega) q p first hf (.pointer (some ⟨A, 0, none⟩)) (.pointer (some ⟨A + 1, 0, none⟩)) (.pointer (some ⟨V, 0, none⟩)) (.pointer (some ⟨V1, 0, none⟩)) (.pointer (some ⟨br, 0, none⟩)) (tab1 c fr T) M (by omega) (by rw [← hszN]; exact hs)
    (fun i hi => tab1_ok hfr hTo (by rw [hszN]; exact hi))
    (fun i M w => StR w0 p D1 X1 q (lvV c p first over ib) br (flatV rtV (rowsL c fr T i)) i M w)
    (fun i M w h => h.cells) (fun i M w w' h hb => h.below hK1 hb) (fun i M w r a h hN => h.read hK1 r a hN) (fun i M w r a cc h1 h2 h hN => h.write hK1 r a cc h1 h2 hN)
    (fun i M' w' hi h => by
      rw [hT i (by rw [hszN]; exact hi)]
      exact h.round hK1 hc hr hfr (hTo.cell i (by rw [hszN]; exact hi)) (by omega) (by rw [hnn]; exact HXB.out) hDbr hDq1 hqbr hw0br) w6 h6)
  have hal : w6.cell? ⟨A, 0, none⟩ = some (.pointer (some ⟨q, 0, none⟩)) := by
    obtain ⟨rv, h⟩ := h6
    exact (HXB.out w6 h.x.1.1).1.cell 0
  have HW6 := Lib.hid hw6
  have HBR := Lib.hid hbr
  clear h5 h5' h6 hKbx hbox hb5 hK1 hX1 hD1 hDq1 hDbr hqbr hw0br hnn htt hT hbT hpT hszN hsz HZ HBZ K1' K2' K3 HB4 hw6 hbr hw4 hV1
  go_upto_region 4 with fail
  rw [HW6.out, HBR.out]
  go_wp2_with fail
  refine KU.out.mono ?_
  rintro e w7 ⟨rfl, h7⟩
  have HM1 : Hid (StR w0 p D1 X1 q (lvV c p first over ib) br (flatV rtV (rowsL c fr T sz)) sz (deal1M M (first + 2) c fr T) w7) := Lib.hid (by unfold deal1M; rw [HSZ.out]; exact h7)
  have hl7 : w7.cell? ⟨A, 0, none⟩ = some (.pointer (some ⟨q, 0, none⟩)) := by
    obtain ⟨rv, h⟩ := h7
    exact (HXB.out w7 h.x.1.1).1.cell 0
  clear h7 KU H6 hal HW6 HBR
  obtain ⟨rv, h7⟩ := HM1.out
  have hKr := keeps_and (keeps_and HK1.out (keeps_blk q (lvV c p first over ib) 92)) (keeps_rows br (br + 1) 142 147 rv sz (flatV rtV (rowsL c fr T sz)))
  have hev1 : (deal1M M (first + 2) c fr T).evs.length ≤ 1099511000000 := by unfold deal1M; rw [updM_evs, HSZ.out]; omega
  have hrd1 : runM (deal1M M (first + 2) c fr T) (first + 2) (sz : Int) 11 = deal2M M (first + 2) c fr T := by rw [← HSI.out]; exact deal2_run (by omega) c fr T hs
  have KR := Lib.hid (fun w' h' => one_run (w0 := w0) (w := w') (p := p) hKr (first + 2) (sz : Int) 11 h' hev1)
  obtain ⟨rr, hrr⟩ : ∃ rr : Int, (if runOk (deal1M M (first + 2) c fr T) (first + 2) (sz : Int) 11 = true then (0 : Int) else 1) = rr := ⟨_, rfl⟩
  rw [hrd1, hrr] at KR
  clear hrr
  have HKr := Lib.hid hKr
  have hq3 : w7.cell? ⟨q, 3, none⟩ = some (.pointer (some ⟨p, 0, none⟩)) := h7.x.1.2.cell 3
  have hq4 : w7.cell? ⟨q, 4, none⟩ = some (.int .i64 first) := h7.x.1.2.cell 4
  have wf2 : IntKind.i64.wrap (first + 2) = first + 2 := by rw [IntKind.wrap_i64]; omega
  have HCW : Hid (∀ w', Below w7.heap.size w7 w' → w'.cell? ⟨A, 0, none⟩ = some (.pointer (some ⟨q, 0, none⟩)) ∧ w'.cell? ⟨q, 3, none⟩ = some (.pointer (some ⟨p, 0, none⟩)) ∧ w'.cell? ⟨q, 4, none⟩ = some (.int .i64 first)) := Lib.hid fun w' hb => by
    have hx := (h7.below HKr.out hb).x
    exact ⟨(HXB.out w' hx.1.1).1.cell 0, hx.1.2.cell 3, hx.1.2.cell 4⟩
  have HRC : Hid (∀ w', OneX 88 w0 w' p (deal2M M (first + 2) c fr T) (fun k => (D1 k ∨ k = q) ∨ (k = br ∨ rv.ownBlock = some k)) (fun w => (X1 w ∧ Blk w q (lvV c p first over ib) 92) ∧ (Blk w br #[rv] 142 ∧ w.ownsRow (br + 1) 147 3 rv sz (flatV rtV (rowsL c fr T sz)))) → w'.cell? ⟨A, 0, none⟩ = some (.pointer (some ⟨q, 0, none⟩)) ∧ w'.cell? ⟨q, 3, none⟩ = some (.pointer (some ⟨p, 0, none⟩)) ∧ w'.cell? ⟨q, 4, none⟩ = some (.int .i64 first)) := Lib.hid fun w' h => ⟨(HXB.out w' h.x.1.1).1.cell 0, h.x.1.2.cell 3, h.x.1.2.cell 4⟩
  have H7 := Lib.hid h7
  have hd7 := h7.drew HKr.out
  have hb0 : Below w7.heap.size w7 w7.drew := (Below.refl _ _).drew
  clear h7 hKr hrd1 hev1 HM1
  go_upto_region 5 with fail
  go_region_held3 (fun w' => w'.cell? ⟨A, 0, none⟩ = some (.pointer (some ⟨q, 0, none⟩)) ∧ w'.cell? ⟨q, 3, none⟩ = some (.pointer (some ⟨p, 0, none⟩)) ∧ w'.cell? ⟨q, 4, none⟩ = some (.int .i64 first)) (first | exact HCW.out _ hb0 | exact HRC.out _ hs8) (first
    | (go_at_call 90; with_reducible refine (KR.out _ hd7).mono ?_; rintro e w8 ⟨rfl, hs8⟩))
  obtain ⟨G, cap, cur, hrv, hG1, hG2, hG3, hG4, hG5, hG6⟩ : ∃ G cap cur, rv = .slice (some ⟨G, 0, none⟩) sz cap ∧ br + 1 ≤ G ∧ Blk w8 G cur 147 ∧ sz ≤ cap ∧ cap ≤ maxLen ∧ sz * 3 ≤ cur.size ∧ cur.toList.take (sz * 3) = flatV rtV (rowsL c fr T sz) := by
    rcases hs8.x.2.2.2 with ⟨-, h0⟩ | ⟨g, cap, cur, e, hb, hg, hn, hm, hsz', ht⟩
    · have := (lcTab_bd c).1; have := HSI.out; omega
    · exact ⟨g, cap, cur, e, hb, hg, hn, hm, by have := congrArg List.length ht; rw [flatV_len rtV_k, rowsL_len, List.length_take, Array.length_toList] at this; omega, ht⟩
  subst hrv
  obtain ⟨tl, htl⟩ : ∃ tl, cur.toList.drop (sz * 3) = tl := ⟨_, rfl⟩
  have hcur : Blk w8 G (flatV rtV (rowsL c fr T sz) ++ tl).toArray 147 := by
    have e : (flatV rtV (rowsL c fr T sz) ++ tl).toArray = cur := by rw [← hG6, ← htl, List.take_append_drop]
    rw [e]; exact hG2
  have hb8 := hs8.x.2.1
  have cb8 : w8.cell? ⟨br, 0, none⟩ = some (.slice (some ⟨G, 0, none⟩) sz cap) := hb8.cell 0
  unfold maxLen at hG4
  have KS := Lib.hid (Rws.sortStable_any (le := fun x y : Rt => x.1 ≤ y.1) (lt := fun x y : Rt => decide (x.1 < y.1)) (S := fun _ => True) (fun x y z h1 h2 => Int.le_trans h1 h2) (rowsL c fr T sz) sz cap (rowsL_len c fr T sz) hG3 (by omega) (fun _ _ => trivial)
    (List.pairwise_iff_getElem.2 (fun i j hi hj _ => ⟨fun e => by have := of_decide_eq_true e; omega, fun e => by have := of_decide_eq_false e; omega⟩)) (row_cmp _ w8 G) w8 (tl := tl) ⟨hcur, MFrame.refl _ _⟩)
  have H8 := Lib.hid hs8
  have HGB : Hid (br + 1 ≤ G) := Lib.hid hG1
  have HTLl : Hid (tl.length = cur.size - sz * 3) := Lib.hid (by rw [← htl, List.length_drop, Array.length_toList])
  have HCZ : Hid (sz * 3 ≤ cur.size) := Lib.hid hG5
  have HOW := Lib.hid hs8.x.2.2
  clear hs8 hcur hb8 hG1 hG2 hG5 hG6 htl HRC HCW H7 hd7 hb0 KR hl7 hq3 hq4
  go_wp2_with fail
  refine KS.out.mono ?_
  rintro e w9 ⟨rfl, R, hR1, hR2, hR3⟩
  have h9 : OneX 88 w0 w9 p (deal2M M (first + 2) c fr T) (fun k => (D1 k ∨ k = q) ∨ k = G) (fun w => (X1 w ∧ Blk w q (lvV c p first over ib) 92) ∧ w.rangeAt G 0 (flatV rtV R)) := by
    have h8 := H8.out.less (E := fun k => (D1 k ∨ k = q) ∨ k = G) (Y := fun w => (X1 w ∧ Blk w q (lvV c p first over ib) 92) ∧ True) (fun k hk => hk.imp id (fun e => .inr (by rw [e]; rfl))) (fun hx => ⟨hx.1, trivial⟩)
    refine OneX.swap (keeps_and HK1.out (keeps_blk q _ _)) h8 (fun k hk he => ?_) (fun k hk => ?_) hR3.fr (fun k hk => ⟨.inl hk, by rw [hk]; exact hR3.blk.lt⟩) (fun j u hu => ?_)
    · have h1 := HGB.out
      have h2 := HD1.out.2.1
      have h3 := HD1.out.2.2.1
      rcases hk with hk | hk
      · have := h2 k hk; omega
      · omega
    · have h1 := HGB.out; have h2 := HD1.out.2.2.2; omega
    · rw [Nat.zero_add, hR3.blk.cell, List.getElem?_toArray, List.getElem?_append_left (List.getElem?_eq_some_iff.1 hu).1]
      exact hu
  have H9 := Lib.hid h9
  have HRI : Hid (R.map (·.2) = (tab2 c fr T).map (itC c.1 fr)) := Lib.hid (rows_its hfr hTo (by rw [HSZ.out]; exact hR1) hR2)
  have hRl : R.length = sz := by rw [hR1.length_eq, rowsL_len]
  have cb9 : w9.cell? ⟨br, 0, none⟩ = some (.slice (some ⟨G, 0, none⟩) sz cap) := by
    have hbrG : br ≠ G := by have := HGB.out; omega
    rw [World.cell?_of_block (w := w8) (hR3.fr.block br (H8.out.ltD br (.inr (.inl rfl))) hbrG)]
    exact cb8
  have HB9 := Lib.hid (HXB.out w9 h9.x.1.1)
  have HRL := Lib.hid hRl
  clear hR1 hR2 hR3 hRl h9 KS HOW H8 cb8
  obtain ⟨Q, hQ⟩ : ∃ Q, R.map (·.2) = Q := ⟨_, rfl⟩
  have HQE : Hid (R.map (·.2) = Q ∧ Q.length = sz) := Lib.hid ⟨hQ, by rw [← hQ, List.length_map, HRL.out]⟩
  clear hQ
  obtain ⟨N, hNn⟩ : ∃ N : Nat, nn = N := ⟨nn.toNat, by omega⟩
  subst hNn
  have hNs : N ≤ sz := by have h1 := (lcTab_bd c).2.2.1; have h2 := HNN.out; have h3 := HSI.out; omega
  have cV9 : w9.cell? ⟨V, 0, none⟩ = some (.int .i64 (N : Int)) := HB9.out.2.2.2.cell 0
  obtain ⟨i0, hi0, hz0, hz1, hz2⟩ := info_parts info_ditemW
  have HI := Lib.hid hi0
  have HZ := Lib.hid hz0
  have HS := Lib.hid hz1
  have HY := Lib.hid hz2
  obtain ⟨B9, hB9⟩ : ∃ B9, w9.heap.size = B9 := ⟨_, rfl⟩
  have HB9E := Lib.hid hB9
  have HR9 : Hid (∀ w', Below B9 w9 w' → ∀ k (hk : k < R.length), w'.cell? ⟨G, k * 3, none⟩ = some (.int .u64 R[k].1) ∧ w'.cell? ⟨G, k * 3 + 1, none⟩ = some (.int .u64 R[k].2.1) ∧ w'.cell? ⟨G, k * 3 + 2, none⟩ = some (.int .i64 R[k].2.2)) := Lib.hid fun w' hb k hk => by
    have hr := range_flat rtV_k H9.out.x.2 hk
    have hG : G < B9 := by rw [← hB9]; exact H9.out.ltD G (.inr rfl)
    have e0 := hr 0 _ rfl
    have e1 := hr 1 _ rfl
    have e2 := hr 2 _ rfl
    rw [Nat.zero_add] at e0 e1 e2
    exact ⟨(hb.cell (p := ⟨G, k * 3, none⟩) hG).trans e0, (hb.cell (p := ⟨G, k * 3 + 1, none⟩) hG).trans e1, (hb.cell (p := ⟨G, k * 3 + 2, none⟩) hG).trans e2⟩
  have HBR9 : Hid (Below B9 w9 w9) := Lib.hid (Below.refl _ _)
  have hN0 : (0 : Int) ≤ (N : Int) := by omega
  have hNc : (N : Int) ≤ (cap : Int) := by omega
  clear hi0 hz0 hz1 hz2 hB9
  go_wp2_with fail
  go_loopw [8, 10, 46] (fun sv _ iv wr => ∃ k : Nat, k ≤ N ∧ iv = .int .i64 k ∧ Hid (wr.ownsRow B9 144 2 sv k (flatV diV (Q.take k))) ∧ Hid (Below B9 w9 wr)) (fun _ _ iv _ => N - (intOf iv).toNat)
  case atStart => exact ⟨0, by omega, rfl, Lib.hid (by have := World.ownsRow_nil w9 B9 144 2; simpa [flatV] using this), HBR9⟩
  case round =>
    obtain ⟨k, hk, rfl, HO, HB⟩ := hrel
    by_cases hlt : k < N
    · have d : decide ((k : Int) < (N : Int)) = true := decide_eq_true (by omega)
      have d' : decide (k < N) = true := decide_eq_true hlt
      have k0 : (0 : Int) ≤ (k : Int) := by omega
      have k1 : (k : Int) < (N : Int) := by omega
      have hkR : k < R.length := by rw [HRL.out]; omega
      obtain ⟨r0, r1, r2⟩ := HR9.out wr HB.out k hkR
      have HTK : Hid (flatV diV (Q.take (k + 1)) = flatV diV (Q.take k) ++ [.int .u64 R[k].2.1, .int .i64 R[k].2.2]) := Lib.hid (by
        have hkQ : k < Q.length := by rw [HQE.out.2]; omega
        have e : Q[k] = R[k].2 := by have h := HQE.out.1; subst h; simp
        rw [List.take_succ_eq_append_getElem hkQ, flatV_append, e]; rfl)
      have HLN : Hid ((flatV diV (Q.take k)).length = k * 2) := Lib.hid (by rw [flatV_len diV_k, List.length_take, HQE.out.2, Nat.min_eq_left (by omega)])
      have HSZ9 : Hid (B9 ≤ wr.heap.size) := Lib.hid (by have := HB9E.out; have := HB.out.size; omega)
      generalize R[k] = x at *
      obtain ⟨xk, xi, xd⟩ := x
      simp only at r0 r1 r2 HTK
      go_wp2_with (first
        | (at_builtin; go_loud (refine wpList_append_own_at _ rfl (.tmp 50) (.tmp 53) 153 rfl B9 144 i0 (.agg #[.int .u64 0, .int .i64 0]) 2 16 Tryz.underlying153 HI.out HZ.out HS.out HY.out rfl (by decide) _ k (flatV diV (Q.take k)) rfl ((HO.out.alloc _).alloc _) ⟨wr.heap.size + 1, 0, none⟩ 1 1 [.int .u64 xi, .int .i64 xd] rfl rfl (by have h := cells_litD (wr.alloc (.cells #[.int .u64 xk, .int .u64 xi, .int .i64 xd] 147)) [.int .u64 xi, .int .i64 xd] 144; simpa using h) (by simp [Value.oneCell']) (by unfold maxLen; omega) (by omega) (by have := HSZ9.out; simp; omega) ?_))
        | fail)
      intro v' w10 hown hgrow _ _
      have HO10 : Hid (w10.ownsRow B9 144 2 v' (k + 1) (flatV diV (Q.take (k + 1)))) := Lib.hid (by rw [HTK.out]; exact hown)
      have HB10 : Hid (Below B9 w9 w10) := Lib.hid (((HB.out.alloc HSZ9.out _).alloc (by have := HSZ9.out; simp; omega) _).grown hgrow (by have := HSZ9.out; simp; omega) (fun kk hkk => (HO.out.lt kk hkk).1))
      clear hown hgrow r0 r1 r2
      go_wp2
      go_roundw
      case rel => exact ⟨k + 1, by omega, by go_num, HO10, HB10⟩
      case measure => simp [intOf]; omega
    · obtain rfl : k = N := by omega
      have d : decide ((k : Int) < (k : Int)) = false := by simp
      have hkp : placesD (lcSh c) = (k : Int) := HNN.out
      have hits : itsL c fr T = Q.take k := by
        unfold itsL
        rw [hkp, Int.toNat_natCast, List.map_take, ← HRI.out, HQE.out.1]
      have hqk : (Q.take k).length = k := by rw [List.length_take, HQE.out.2]; omega
      have hsl : SlK diV wr u8 (itsL c fr T) := by
        rw [hits]
        have h := HO.out
        refine SlK.of_owns (k := 2) (base := B9) (e := 144) ?_
        rw [hqk]
        exact h
      have hil := its_len (c := c) fr T
      have hpb : ∀ x ∈ dealP (lcSh c) (itsL c fr T), 0 ≤ x ∧ x ≤ 1024 := deal_bd (lcRight_iff hr).2 hil
      have hpll : ((dealP (lcSh c) (itsL c fr T)).length : Int) = (k : Int) := by rw [← hkp]; exact dealP_len (lcRight_iff hr).2 hil
      have KD := Lib.hid (deal_fitN (lcSh c) (lcRight_iff hr).2 (itsL c fr T) hil u8 wr hsl)
      have HPB := Lib.hid hpb
      have HPL := Lib.hid hpll
      have hbx := HXB.out wr (H9.out.below (keeps_and (keeps_and HK1.out (keeps_blk q _ _)) (keeps_range G 0 _)) (by have := HB.out; rw [← HB9E.out] at this; exact this)).x.1.1
      have s0 : wr.cell? ⟨V1, 0, none⟩ = some (.int .i64 (lcSh c).1) := hbx.2.2.1.cell 0
      have s1 : wr.cell? ⟨V1, 1, none⟩ = some (.int .i64 (lcSh c).2.1) := hbx.2.2.1.cell 1
      have s2 : wr.cell? ⟨V1, 2, none⟩ = some (.int .i64 (lcSh c).2.2) := hbx.2.2.1.cell 2
      have HLL : Hid (lostL c fr T = dealLost (lcSh c) (itsL c fr T)) := Lib.hid rfl
      clear hits hqk hsl hil hpb hpll hbx hkp HRI
      go_wp2_with fail
      refine KD.out.mono ?_
      rintro e w11 ⟨v1, v2, rfl, hv1, hv2, hb11, hn1, hn2⟩
      obtain ⟨pa, pc, ep⟩ := hv1.len
      obtain ⟨la, lc', el⟩ := hv2.len
      rw [List.length_map] at ep el
      subst ep el
      obtain ⟨P1, hP1⟩ : ∃ P1, w11.heap.size = P1 := ⟨_, rfl⟩
      obtain ⟨w12, hw12⟩ : ∃ w12, (w11.alloc (.cells #[.slice pa (dealP (lcSh c) (itsL c fr T)).length pc] 36)).alloc (.cells #[.slice la (dealLost (lcSh c) (itsL c fr T)).length lc'] 36) = w12 := ⟨_, rfl⟩
      obtain ⟨v1, hve1⟩ : ∃ v1, Value.slice pa (dealP (lcSh c) (itsL c fr T)).length pc = v1 := ⟨_, rfl⟩
      obtain ⟨v2, hve2⟩ : ∃ v2, Value.slice la (dealLost (lcSh c) (itsL c fr T)).length lc' = v2 := ⟨_, rfl⟩
      have hb12 : Below w11.heap.size w11 w12 := by rw [← hw12]; exact ((Below.refl _ _).alloc (Nat.le_refl _) _).alloc (by simp) _
      have hbw : Below wr.heap.size wr w12 := hb11.trans (hb12.mono hb11.size)
      have hbx : BxE P1 v1 v2 (dealP (lcSh c) (itsL c fr T)) (dealLost (lcSh c) (itsL c fr T)) w12 := by
        rw [hve1, hve2] at hw12
        rw [hve1] at hv1
        rw [hve2] at hv2
        refine ⟨?_, ?_, hv1.below hb12, hv2.below hb12⟩
        · rw [← hw12, ← hP1]; exact (Blk.new w11 _ _).alloc _
        · rw [← hw12, ← hP1]
          have := Blk.new (w11.alloc (.cells #[v1] 36)) #[v2] 36
          simpa using this
      obtain ⟨P0, hP0⟩ : ∃ P0, wr.heap.size = P0 := ⟨_, rfl⟩
      have hP01 : P0 ≤ P1 := by rw [← hP0, ← hP1]; exact hb11.size
      rw [hve1] at hv1 hn1
      rw [hve2] at hv2 hn2
      rw [hP0] at hn1 hn2
      have hKE := keeps_bxE hP1 hP01 hv1 hv2 hn1 hn2
      have h10 := (H9.out.less (E := fun k => D1 k ∨ k = q) (Y := fun w => X1 w ∧ Blk w q (lvV c p first over ib) 92) (fun k hk => .inl hk) (fun hx => hx.1)).below (keeps_and HK1.out (keeps_blk q _ _)) (by have := HB.out; rw [← HB9E.out] at this; exact this)
      have hz12 : w12.heap.size = P1 + 2 := by rw [← hw12, ← hP1]; simp
      have h12 := h10.ret (keeps_and HK1.out (keeps_blk q _ _)) (E := fun k => P0 ≤ k ∧ k < P1 + 2) (Y := BxE P1 v1 v2 (dealP (lcSh c) (itsL c fr T)) (dealLost (lcSh c) (itsL c fr T))) hbw (fun k hk => by omega) hbx
      obtain ⟨D2, hD2⟩ : ∃ D2 : Nat → Prop, D2 = fun k => D1 k ∨ (P0 ≤ k ∧ k < P1 + 2) := ⟨_, rfl⟩
      obtain ⟨X2, hX2⟩ : ∃ X2 : World → Prop, X2 = fun w => X1 w ∧ BxE P1 v1 v2 (dealP (lcSh c) (itsL c fr T)) (dealLost (lcSh c) (itsL c fr T)) w := ⟨_, rfl⟩
      have hK2 : Keeps D2 X2 := by rw [hD2, hX2]; exact keeps_and HK1.out hKE
      have hqP : q < P0 := by rw [← hP0]; exact h10.ltD q (.inr rfl)
      have hDq2 : ∀ k, D2 k → k ≠ q := fun k hk => by
        rw [hD2] at hk
        rcases hk with hk | hk
        · exact HD1.out.1 k hk
        · omega
      have h12' : OneX 88 w0 w12 p (deal2M M (first + 2) c fr T) (fun k => D2 k ∨ k = q) (fun w => X2 w ∧ Blk w q (lvV c p first over ib) 92) := by
        rw [hD2, hX2]
        refine h12.less (fun k hk => ?_) (fun hx => ⟨⟨hx.1.1, hx.2⟩, hx.1.2⟩)
        rcases hk with (hk | hk) | hk
        · exact .inl (.inl hk)
        · exact .inr hk
        · exact .inl (.inr hk)
      have HXE : Hid (∀ w, X2 w → X1 w ∧ BxE P1 v1 v2 (dealP (lcSh c) (itsL c fr T)) (dealLost (lcSh c) (itsL c fr T)) w) := Lib.hid (by rw [hX2]; exact fun _ h => h)
      have HDD : Hid (∀ k, D1 k → D2 k) := Lib.hid (by rw [hD2]; exact fun _ h => .inl h)
      have HK2 := Lib.hid hK2
      have HDq2 := Lib.hid hDq2
      have H12 := Lib.hid h12'
      have HW12 := Lib.hid hw12
      have HP1 := Lib.hid hP1
      have HVE2 := Lib.hid hve2
      have HVE1 := Lib.hid hve1
      obtain ⟨b1, b2, b3, b4⟩ := hbx
      have hx1 := (HXE.out w12 h12'.x.1).1
      have cA : w12.cell? ⟨A, 0, none⟩ = some (.pointer (some ⟨q, 0, none⟩)) := (HXB.out w12 hx1).1.cell 0
      have cq5 : w12.cell? ⟨q, 5, none⟩ = some (.bool over) := h12'.x.2.cell 5
      have fq5 : w12.frozen? ⟨q, 5, none⟩ = false := h12'.x.2.free 5
      have cl : w12.cell? ⟨P1 + 1, 0, none⟩ = some (.slice la (dealLost (lcSh c) (itsL c fr T)).length lc') := by rw [hve2]; exact b2.cell 0
      have cA' : w12.drew.cell? ⟨A, 0, none⟩ = some (.pointer (some ⟨q, 0, none⟩)) := cA
      have cq5' : w12.drew.cell? ⟨q, 5, none⟩ = some (.bool over) := cq5
      have fq5' : w12.drew.frozen? ⟨q, 5, none⟩ = false := fq5
      have cl' : w12.drew.cell? ⟨P1 + 1, 0, none⟩ = some (.slice la (dealLost (lcSh c) (itsL c fr T)).length lc') := cl
      clear hv1 hv2 hb11 hn1 hn2 hw12 hP1 hve1 hve2 hb12 hbw b1 b2 b3 b4 hP0 hKE h10 h12 hK2 hX2 hD2 hDq2 h12' hx1 s0 s1 s2 KD hqP hP01 hz12 cb9 cV9
      go_upto_region 14 with fail
      rw [HW12.out, HP1.out]
      have hov : ∃ ov, (over || decide (0 < (lostL c fr T).length)) = ov := ⟨_, rfl⟩
      obtain ⟨ov, hov⟩ := hov
      have hcase : (over = true ∧ Hid (ov = true)) ∨ (over = false ∧ Hid (decide (0 < (dealLost (lcSh c) (itsL c fr T)).length) = ov)) := by
        rw [HLL.out] at hov
        cases over with
        | true => exact .inl ⟨rfl, Lib.hid (by rw [← hov]; rfl)⟩
        | false => exact .inr ⟨rfl, Lib.hid (by rw [← hov, Bool.false_or])⟩
      have HOV := Lib.hid hov
      have h13 : OneX 88 w0 (w12.drew.setCell ⟨q, 5, none⟩ (.bool ov)) p (deal2M M (first + 2) c fr T) (fun k => D2 k ∨ k = q) (fun w => X2 w ∧ Blk w q (lvV c p first ov ib) 92) := by
        have h0 := H12.out.drew (keeps_and HK2.out (keeps_blk q _ _))
        refine OneX.swap HK2.out h0 (fun k hk he => HDq2.out k hk he) (fun k hk => by rw [hk]; exact hqo) ((MFrame.refl (fun k => k = q) w12.drew).set (p := ⟨q, 5, none⟩) (.inl rfl) _) (fun k hk => ⟨.inl hk, by rw [hk, World.size_setCell]; exact h0.ltD q (.inr rfl)⟩) ?_
        have := h0.x.2.set 5 (.bool ov)
        rwa [lvV_over] at this
      obtain ⟨w13, hw13⟩ : ∃ w13, w12.drew.setCell ⟨q, 5, none⟩ (.bool ov) = w13 := ⟨_, rfl⟩
      rw [hw13] at h13
      have HW13 := Lib.hid hw13
      have H13 := Lib.hid h13
      have cA13 : w13.cell? ⟨A, 0, none⟩ = some (.pointer (some ⟨q, 0, none⟩)) := (HXB.out w13 (HXE.out w13 h13.x.1).1).1.cell 0
      clear hov hw13
      have HMB : Hid (∀ w, X2 w → BxE P1 v1 v2 (dealP (lcSh c) (itsL c fr T)) (dealLost (lcSh c) (itsL c fr T)) w ∧ BxD q fr (k : Int) (lcSh c) A (A + 1) V1 V w) := Lib.hid fun w h => ⟨(HXE.out w h).2, HXB.out w (HXE.out w h).1⟩
      have hev2 := deal2_evs M (first + 2) c fr T
      rw [HSZ.out] at hev2
      have hKq := keeps_and HK2.out (keeps_blk q (lvV c p first ov ib) 92)
      have KU := Lib.hid (lupdate3_any sz (by omega) q p first hf (.pointer (some ⟨P1 + 1, 0, none⟩)) (.pointer (some ⟨V, 0, none⟩)) (.pointer (some ⟨P1, 0, none⟩)) (tab3 c fr T) (deal2M M (first + 2) c fr T) (by omega) (by rw [deal2_size c fr T hs, ← HSZ.out]; exact hs)
        (fun i hi => tab3_ok hr hfr hTo (by rw [HSZ.out]; exact hi))
        (fun _ M w => OneX 88 w0 w p M (fun k => D2 k ∨ k = q) (fun w => X2 w ∧ Blk w q (lvV c p first ov ib) 92))
        (fun i M w h => ⟨h.x.2.cell 3, h.x.2.cell 4⟩) (fun i M w w' h hb => h.below hKq hb) (fun i M w r a h hN => one_read hKq r a h hN) (fun i M w r a cc h1 h2 h hN => one_write hKq r a cc h1 h2 h hN)
        (fun i M' w' hi h => by
          rw [deal2_read (by omega) c fr T hs (by rw [HSZ.out]; exact hi)]
          obtain ⟨⟨b1, b2, b3, b4⟩, b5⟩ := HMB.out w' h.x.1
          have h2l : ((tab2 c fr T).getD i zeros).length = 12 := by
            have hl := tab2_len c fr T
            rw [List.getD_eq_getElem?_getD, List.getElem?_eq_getElem (by rw [hl, HSZ.out]; exact hi)]
            exact (tab2_ok hfr hTo _ (List.getElem_mem _)).1
          refine (ldeal3_any (k : Int) (by omega) (dealP (lcSh c) (itsL c fr T)) (dealLost (lcSh c) (itsL c fr T)) HPL.out HPB.out ((tab2 c fr T).getD i zeros) h2l i (by omega) (P1 + 1) V P1 v2 v1 w' b2 b5.2.2.2 b1 b4 b3).mono ?_
          rintro e w'' ⟨h1, h2⟩
          refine ⟨?_, h.below hKq h2⟩
          rw [h1]
          unfold tab3
          rw [HNN.out]) w13 h13)
      clear h13 hev2
      rcases hcase with ⟨rfl, hlen⟩ | ⟨rfl, hlen⟩
      focus
        go_region
      rotate_left
      focus
        go_region
      all_goals
        first
          | rw [← World.setCell_drew, hlen.out, HW13.out]
          | rw [hlen.out, HW13.out]
          | rw [← World.setCell_drew, show w12.drew.setCell ⟨q, 5, none⟩ (.bool true) = w13 from by rw [← HW13.out, hlen.out]]
          | rw [show w12.drew.setCell ⟨q, 5, none⟩ (.bool true) = w13 from by rw [← HW13.out, hlen.out]]
        go_wp2_with fail
        refine KU.out.mono ?_
        rintro e w14 ⟨rfl, h14⟩
        have h14d : OneX 88 w0 w14 p (deal3M M (first + 2) c fr T) (fun k => D2 k ∨ k = q) (fun w => X2 w ∧ Blk w q (lvV c p first ov ib) 92) := by
          unfold deal3M
          rw [HSZ.out]
          exact h14
        clear h14
        have hKq := Lib.hid (keeps_and HK2.out (keeps_blk q (lvV c p first ov ib) 92))
        have hev3 : (deal3M M (first + 2) c fr T).evs.length ≤ 1099511000000 := by
          unfold deal3M
          rw [updM_evs, HSZ.out]
          have h := deal2_evs M (first + 2) c fr T
          rw [HSZ.out] at h
          omega
        have hrd3 : runM (deal3M M (first + 2) c fr T) (first + 2) (sz : Int) 11 = dealM M (first + 2) c fr T := by rw [← HSI.out]; exact deal4_run (by omega) c fr T hs
        have KR := Lib.hid (fun w' h' => one_run (w0 := w0) (w := w') (p := p) hKq.out (first + 2) (sz : Int) 11 h' hev3)
        obtain ⟨rr, hrr⟩ : ∃ rr : Int, (if runOk (deal3M M (first + 2) c fr T) (first + 2) (sz : Int) 11 = true then (0 : Int) else 1) = rr := ⟨_, rfl⟩
        rw [hrd3, hrr] at KR
        clear hrr
        have cA14 : w14.cell? ⟨A, 0, none⟩ = some (.pointer (some ⟨q, 0, none⟩)) := (HMB.out w14 h14d.x.1).2.1.cell 0
        have cq3 : w14.cell? ⟨q, 3, none⟩ = some (.pointer (some ⟨p, 0, none⟩)) := h14d.x.2.cell 3
        have cq4 : w14.cell? ⟨q, 4, none⟩ = some (.int .i64 first) := h14d.x.2.cell 4
        have HCW : Hid (∀ w', Below w14.heap.size w14 w' → w'.cell? ⟨A, 0, none⟩ = some (.pointer (some ⟨q, 0, none⟩)) ∧ w'.cell? ⟨q, 3, none⟩ = some (.pointer (some ⟨p, 0, none⟩)) ∧ w'.cell? ⟨q, 4, none⟩ = some (.int .i64 first)) := Lib.hid fun w' hb => by
          have hx := (h14d.below hKq.out hb).x
          exact ⟨(HMB.out w' hx.1).2.1.cell 0, hx.2.cell 3, hx.2.cell 4⟩
        have HRC : Hid (∀ w', OneX 88 w0 w' p (dealM M (first + 2) c fr T) (fun k => D2 k ∨ k = q) (fun w => X2 w ∧ Blk w q (lvV c p first ov ib) 92) → w'.cell? ⟨A, 0, none⟩ = some (.pointer (some ⟨q, 0, none⟩)) ∧ w'.cell? ⟨q, 3, none⟩ = some (.pointer (some ⟨p, 0, none⟩)) ∧ w'.cell? ⟨q, 4, none⟩ = some (.int .i64 first)) := Lib.hid fun w' h => ⟨(HMB.out w' h.x.1).2.1.cell 0, h.x.2.cell 3, h.x.2.cell 4⟩
        have hd14 := h14d.drew hKq.out
        have hb14 : Below w14.heap.size w14 w14.drew := (Below.refl _ _).drew
        clear h14d hrd3 hev3 cA cA' cq5 cq5' fq5 fq5' cl cl' KU
        go_upto_region 16 with fail
        go_region_held3 (fun w' => w'.cell? ⟨A, 0, none⟩ = some (.pointer (some ⟨q, 0, none⟩)) ∧ w'.cell? ⟨q, 3, none⟩ = some (.pointer (some ⟨p, 0, none⟩)) ∧ w'.cell? ⟨q, 4, none⟩ = some (.int .i64 first)) (first | exact HCW.out _ hb14 | exact HRC.out _ hs15) (first
          | (go_at_call 90; with_reducible refine (KR.out _ hd14).mono ?_; rintro e w15 ⟨rfl, hs15⟩))
        have HF : Hid (OneX 88 w0 w15 p (dealM M (first + 2) c fr T) (fun k => D k ∨ k = q) (fun w => X w ∧ Blk w q (lvV c p first (ov) ib) 92)) := Lib.hid (hs15.less (fun k hk => hk.imp (fun h => HDD.out k (HXX.out.2 k h)) id) (fun hx => ⟨HXX.out.1 _ (HXE.out _ hx.1).1, hx.2⟩))
        rw [← HOV.out] at HF
        clear hs15 HRC HCW hd14 hb14 KR
        go_end0
        exact ⟨rfl, HF.out⟩
end Go.Proofs.YthchfdobdghdoaaGreat
end
