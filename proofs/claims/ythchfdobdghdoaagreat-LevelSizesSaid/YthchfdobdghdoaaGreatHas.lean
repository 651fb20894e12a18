/-
  Joined texts: MemRep, MemSize.
-/
import Derived.Test.YthchfdobdghdoaaGreatProg
import Derived.Test.YthchfdobdghdoaaGreatHao
import Derived.Maps.AppendAt
import Derived.Test.YthchfdobdghdoaaGreatHae
set_option linter.unusedVariables false
set_option linter.unusedSimpArgs false
set_option linter.unusedSectionVars false
set_option linter.unnecessarySimpa false
section

/-
  How a memory lies in a world: one for mem.Memory and shellgameref3.Memory (the same fields; T is the struct's type).
-/
namespace Go.Proofs.YthchfdobdghdoaaGreat
open Go.RowKit Go.Sg

theorem ownsRow_keep {w w' : World} {base : Nat} {e : TypeId} {size : Nat} {v : Value} {n : Nat} {xs : List Value} (h : w.ownsRow base e size v n xs) (hb : ∀ k, v.ownBlock = some k → w'.heap[k]? = w.heap[k]?) : w'.ownsRow base e size v n xs := by
  refine ⟨h.1, ?_⟩
  rcases h.2 with h2 | ⟨g, cap, cur, rfl, hbg, hg, h3⟩
  · exact .inl h2
  · exact .inr ⟨g, cap, cur, rfl, hbg, by rw [hb g rfl]; exact hg, h3⟩
theorem Blk_keep {w w' : World} {b : Nat} {cs : Array Value} {t : TypeId} (h : Blk w b cs t) (hb : w'.heap[b]? = w.heap[b]?) : Blk w' b cs t := by
  unfold Blk
  rw [hb]
  exact h

structure MemG (w : World) (T p rb cap : Nat) (cur : Array Value) (g : Nat → Nat) (ev : Value) (M : Mm) (F : Nat → Prop) : Prop where
  box : Blk w p #[.slice (some ⟨rb, 0, none⟩) M.regs.length cap, ev, .bool M.fault] T
  row : Blk w rb cur 89
  capn : cur.size = cap
  lecap : M.regs.length ≤ cap
  capm : cap ≤ maxLen
  slot : ∀ i (h : i < M.regs.length), cur[i]? = some (.slice (some ⟨g i, 0, none⟩) M.regs[i].length M.regs[i].length)
  cells : ∀ i (h : i < M.regs.length), Blk w (g i) (wv M.regs[i].flatten).toArray 74
  evs : w.ownsRow 0 94 3 ev M.evs.length (evsV M.evs)
  inP : F p
  inR : F rb
  inG : ∀ i, i < M.regs.length → F (g i)
  inE : ∀ k, ev.ownBlock = some k → F k
  pr : p ≠ rb
  pg : ∀ i, i < M.regs.length → p ≠ g i
  rg : ∀ i, i < M.regs.length → rb ≠ g i
  gg : ∀ i j, i < M.regs.length → j < M.regs.length → g i = g j → i = j
  pe : ∀ k, ev.ownBlock = some k → k ≠ p ∧ k ≠ rb ∧ ∀ i, i < M.regs.length → k ≠ g i
  lt : ∀ k, F k → k < w.heap.size
  ok : M.ok

def MemRep (w : World) (T p : Nat) (M : Mm) (F : Nat → Prop) : Prop := ∃ rb cap cur g ev, MemG w T p rb cap cur g ev M F

theorem MemG.keep {w w' : World} {T p rb cap : Nat} {cur : Array Value} {g : Nat → Nat} {ev : Value} {M : Mm} {F : Nat → Prop} (h : MemG w T p rb cap cur g ev M F) (hs : w.heap.size ≤ w'.heap.size) (hb : ∀ k, F k → w'.heap[k]? = w.heap[k]?) : MemG w' T p rb cap cur g ev M F :=
  { h with
    box := Blk_keep h.box (hb _ h.inP)
    row := Blk_keep h.row (hb _ h.inR)
    cells := fun i hi => Blk_keep (h.cells i hi) (hb _ (h.inG i hi))
    evs := ownsRow_keep h.evs fun k hk => hb _ (h.inE k hk)
    lt := fun k hk => Nat.lt_of_lt_of_le (h.lt k hk) hs }
theorem MemG.mono {w : World} {T p rb cap : Nat} {cur : Array Value} {g : Nat → Nat} {ev : Value} {M : Mm} {F G : Nat → Prop} (h : MemG w T p rb cap cur g ev M F) (hG : ∀ k, F k → G k) (hl : ∀ k, G k → k < w.heap.size) : MemG w T p rb cap cur g ev M G :=
  { h with inP := hG _ h.inP, inR := hG _ h.inR, inG := fun i hi => hG _ (h.inG i hi), inE := fun k hk => hG _ (h.inE k hk), lt := hl }
theorem MemRep.keep {w w' : World} {T p : Nat} {M : Mm} {F : Nat → Prop} (h : MemRep w T p M F) (hs : w.heap.size ≤ w'.heap.size) (hb : ∀ k, F k → w'.heap[k]? = w.heap[k]?) : MemRep w' T p M F := by
  obtain ⟨rb, cap, cur, g, ev, h⟩ := h
  exact ⟨rb, cap, cur, g, ev, h.keep hs hb⟩
theorem MemRep.mono {w : World} {T p : Nat} {M : Mm} {F G : Nat → Prop} (h : MemRep w T p M F) (hG : ∀ k, F k → G k) (hl : ∀ k, G k → k < w.heap.size) : MemRep w T p M G := by
  obtain ⟨rb, cap, cur, g, ev, h⟩ := h
  exact ⟨rb, cap, cur, g, ev, h.mono hG hl⟩
theorem MemRep.lt {w : World} {T p : Nat} {M : Mm} {F : Nat → Prop} (h : MemRep w T p M F) : ∀ k, F k → k < w.heap.size := by
  obtain ⟨rb, cap, cur, g, ev, h⟩ := h
  exact h.lt
theorem MemRep.ok {w : World} {T p : Nat} {M : Mm} {F : Nat → Prop} (h : MemRep w T p M F) : M.ok := by
  obtain ⟨rb, cap, cur, g, ev, h⟩ := h
  exact h.ok
/-- Another one's work leaves it. -/
theorem MemRep.frame {w w' : World} {T p : Nat} {M : Mm} {F G : Nat → Prop} (h : MemRep w T p M F) (hf : MFrame G w w') (hd : ∀ k, F k → ¬ G k) : MemRep w' T p M F :=
  h.keep hf.size fun k hk => hf.block k (h.lt k hk) (hd k hk)
theorem MemRep.below {w w' : World} {T p : Nat} {M : Mm} {F : Nat → Prop} (h : MemRep w T p M F) (hb : Below w.heap.size w w') : MemRep w' T p M F :=
  h.keep hb.size fun k hk => hb.block k (h.lt k hk)
theorem MemRep.drewN {w : World} {T p : Nat} {M : Mm} {F : Nat → Prop} (h : MemRep w T p M F) (n : Nat) : MemRep (w.drewN n) T p M F := h.keep (Nat.le_refl _) fun _ _ => rfl

/-- A fault is told. -/
theorem MemG.fault {w : World} {T p rb cap : Nat} {cur : Array Value} {g : Nat → Nat} {ev : Value} {M : Mm} {F : Nat → Prop} (h : MemG w T p rb cap cur g ev M F) : MemG (w.setCell ⟨p, 2, none⟩ (.bool true)) T p rb cap cur g ev { M with fault := true } F :=
  { h with
    box := by have := h.box.set 2 (.bool true); exact this
    row := h.row.other _ _ (fun e => h.pr e.symm)
    cells := fun i hi => (h.cells i hi).other _ _ (fun e => h.pg i hi e.symm)
    evs := ownsRow_keep h.evs fun k hk => Below.heap_setCell w _ _ k (h.pe k hk).1
    lt := fun k hk => by rw [World.size_setCell]; exact h.lt k hk
    ok := h.ok }
/-- A look is noted: the row of looks has grown, and the field is set. -/
theorem MemG.noted {w w2 : World} {T p rb cap : Nat} {cur : Array Value} {g : Nat → Nat} {ev ev' : Value} {M : Mm} {F : Nat → Prop} (h : MemG w T p rb cap cur g ev M F) (e : Ev)
    (hown : w2.ownsRow 0 94 3 ev' (M.evs.length + 1) (evsV M.evs ++ evV e)) (hs : w.heap.size ≤ w2.heap.size) (hb : ∀ k, k < w.heap.size → some k ≠ ev.ownBlock → w2.heap[k]? = w.heap[k]?)
    (hat : ∀ k, ev'.ownBlock = some k → ev.ownBlock = some k ∨ (w.heap.size ≤ k ∧ k < w2.heap.size)) : MemG (w2.setCell ⟨p, 1, none⟩ ev') T p rb cap cur g ev' { M with evs := M.evs ++ [e] } (Grow F w w2) := by
  have hne : ∀ k, (k = p ∨ k = rb ∨ ∃ i, i < M.regs.length ∧ k = g i) → some k ≠ ev.ownBlock := fun k hk e => by
    obtain ⟨h1, h2, h3⟩ := h.pe k e.symm
    rcases hk with hk | hk | ⟨i, hi, hk⟩
    · exact h1 hk
    · exact h2 hk
    · exact h3 i hi hk
  have kp := hb p (h.lt _ h.inP) (hne p (.inl rfl))
  have kr := hb rb (h.lt _ h.inR) (hne rb (.inr (.inl rfl)))
  have kg : ∀ i, i < M.regs.length → w2.heap[g i]? = w.heap[g i]? := fun i hi => hb (g i) (h.lt _ (h.inG i hi)) (hne (g i) (.inr (.inr ⟨i, hi, rfl⟩)))
  have hpe : ∀ k, ev'.ownBlock = some k → k ≠ p ∧ k ≠ rb ∧ ∀ i, i < M.regs.length → k ≠ g i := fun k hk => by
    rcases hat k hk with h1 | ⟨h1, h2⟩
    · exact h.pe k h1
    · have l1 := h.lt _ h.inP
      have l2 := h.lt _ h.inR
      exact ⟨by omega, by omega, fun i hi => by have := h.lt _ (h.inG i hi); omega⟩
  exact { h with
    box := by
      have := (Blk_keep h.box kp).set 1 ev'
      exact this
    row := (Blk_keep h.row kr).other _ _ (fun e => h.pr e.symm)
    cells := fun i hi => (Blk_keep (h.cells i hi) (kg i hi)).other _ _ (fun e => h.pg i hi e.symm)
    evs := by
      have h2 : w2.ownsRow 0 94 3 ev' (M.evs ++ [e]).length (evsV (M.evs ++ [e])) := by rw [List.length_append, evsV_snoc]; exact hown
      exact ownsRow_keep h2 fun k hk => Below.heap_setCell w2 _ _ k (hpe k hk).1
    inP := .inl h.inP
    inR := .inl h.inR
    inG := fun i hi => .inl (h.inG i hi)
    inE := fun k hk => by
      rcases hat k hk with h1 | h1
      · exact .inl (h.inE k h1)
      · exact .inr h1
    pe := hpe
    lt := fun k hk => by
      rw [World.size_setCell]
      rcases hk with hk | hk
      · have := h.lt k hk; omega
      · exact hk.2
    ok := h.ok }

/-! ### One cell of a region -/
theorem flat_len {l : List (List Int)} (h : ∀ c ∈ l, c.length = 12) : l.flatten.length = 12 * l.length := by
  induction l with
  | nil => rfl
  | cons c l ih =>
    rw [List.flatten_cons, List.length_append, ih (fun d hd => h d (List.mem_cons_of_mem _ hd)), h c (List.mem_cons_self ..), List.length_cons]
    omega
theorem flat_drop {l : List (List Int)} (h : ∀ c ∈ l, c.length = 12) (j : Nat) : l.flatten.drop (12 * j) = (l.drop j).flatten := by
  induction j generalizing l with
  | zero => simp
  | succ j ih =>
    cases l with
    | nil => simp
    | cons c l =>
      have hc := h c (List.mem_cons_self ..)
      rw [List.flatten_cons, List.drop_succ_cons, ← ih (fun d hd => h d (List.mem_cons_of_mem _ hd)), show 12 * (j + 1) = 12 + 12 * j by omega, ← List.drop_drop]
      congr 1
      rw [← hc, List.drop_left]
theorem flat_at {l : List (List Int)} (h : ∀ c ∈ l, c.length = 12) (j : Nat) (hj : j < l.length) (k : Nat) (hk : k < 12) : l.flatten[12 * j + k]? = (l[j])[k]? := by
  have h1 : (l.flatten.drop (12 * j))[k]? = l.flatten[12 * j + k]? := by rw [List.getElem?_drop]
  have hc := h _ (List.getElem_mem hj)
  rw [← h1, flat_drop h, List.drop_eq_getElem_cons hj, List.flatten_cons, List.getElem?_append_left (by omega)]
theorem flat_set {l : List (List Int)} (h : ∀ c ∈ l, c.length = 12) (j : Nat) (hj : j < l.length) {c : List Int} (hc : c.length = 12) (m : Nat) :
    (l.set j c).flatten[m]? = if 12 * j ≤ m ∧ m < 12 * j + 12 then c[m - 12 * j]? else l.flatten[m]? := by
  have h' : ∀ d ∈ l.set j c, d.length = 12 := fun d hd => by
    rcases List.mem_or_eq_of_mem_set hd with h2 | rfl
    · exact h d h2
    · exact hc
  by_cases hm : m < 12 * l.length
  · have e1 : m = 12 * (m / 12) + m % 12 := by omega
    have hd : m / 12 < l.length := by omega
    have hr : m % 12 < 12 := by omega
    rw [show (l.set j c).flatten[m]? = (l.set j c).flatten[12 * (m / 12) + m % 12]? by rw [← e1], flat_at h' _ (by rw [List.length_set]; exact hd) _ hr]
    rw [show l.flatten[m]? = l.flatten[12 * (m / 12) + m % 12]? by rw [← e1], flat_at h _ hd _ hr]
    rw [List.getElem_set]
    by_cases hj2 : j = m / 12
    · rw [if_pos hj2, if_pos (by omega), show m - 12 * j = m % 12 by omega]
    · rw [if_neg hj2, if_neg (by omega)]
  · rw [if_neg (by omega), List.getElem?_eq_none (by rw [flat_len h', List.length_set]; omega), List.getElem?_eq_none (by rw [flat_len h]; omega)]

theorem MemG.load {w : World} {T p rb cap : Nat} {cur : Array Value} {g : Nat → Nat} {ev : Value} {M : Mm} {F : Nat → Prop} (h : MemG w T p rb cap cur g ev M F) {i j : Nat} (hi : i < M.regs.length) (hj : j < M.regs[i].length) : w.rangeAt (g i) (12 * j) (wv M.regs[i][j]) := by
  intro k v hv
  have hok := h.ok.1 _ (List.getElem_mem hi)
  have hlen := (hok.2 _ (List.getElem_mem hj)).1
  have hk : k < 12 := by
    have := (List.getElem?_eq_some_iff.1 hv).1
    rw [wv_len, hlen] at this
    exact this
  rw [(h.cells i hi).cell]
  rw [List.getElem?_toArray]
  simp only [wv, List.getElem?_map] at hv ⊢
  rw [flat_at (fun c hc => (hok.2 c hc).1) j hj k hk]
  exact hv
theorem MemG.there {w : World} {T p rb cap : Nat} {cur : Array Value} {g : Nat → Nat} {ev : Value} {M : Mm} {F : Nat → Prop} (h : MemG w T p rb cap cur g ev M F) {i j : Nat} (hi : i < M.regs.length) (hj : j < M.regs[i].length) : w.there (g i) (12 * j) 12 := by
  intro k hk
  have hok := h.ok.1 _ (List.getElem_mem hi)
  have hlen := flat_len (fun c hc => (hok.2 c hc).1)
  refine ⟨?_, (h.cells i hi).free _⟩
  rw [(h.cells i hi).cell, List.getElem?_toArray, List.getElem?_eq_getElem (by rw [wv_len, hlen]; omega)]
  rfl
theorem Blk_setCells {b : Nat} {t : TypeId} : ∀ (vs : List Value) (o : Nat) {w : World} {cs : Array Value}, Blk w b cs t → ∃ cs' : Array Value, Blk (w.setCells b o vs) b cs' t ∧ cs'.size = cs.size ∧ ∀ m, cs'[m]? = if o ≤ m ∧ m < o + vs.length ∧ m < cs.size then vs[m - o]? else cs[m]?
  | [], o, w, cs, h => ⟨cs, h, rfl, fun m => by rw [if_neg (by simp; omega)]⟩
  | v :: r, o, w, cs, h => by
    obtain ⟨cs', h1, h2, h3⟩ := Blk_setCells r (o + 1) (h.set o v)
    refine ⟨cs', by rw [World.setCells]; exact h1, by rw [h2]; simp, fun m => ?_⟩
    rw [h3 m, List.length_cons]
    simp only [Array.size_setIfInBounds]
    by_cases hm : m = o
    · subst hm
      rw [if_neg (by omega)]
      by_cases hs : m < cs.size
      · rw [if_pos (by omega)]
        simp [hs]
      · rw [if_neg (by omega)]
        simp [hs]
    · by_cases hs : o + 1 ≤ m ∧ m < o + 1 + r.length ∧ m < cs.size
      · rw [if_pos hs, if_pos (by omega), show m - o = (m - (o + 1)) + 1 by omega, List.getElem?_cons_succ]
      · rw [if_neg hs, if_neg (by omega), Array.getElem?_setIfInBounds, if_neg (by omega)]
theorem Blk_setCells_other {b b' : Nat} {t : TypeId} (hne : b ≠ b') : ∀ (vs : List Value) (o : Nat) {w : World} {cs : Array Value}, Blk w b cs t → Blk (w.setCells b' o vs) b cs t
  | [], _, _, _, h => h
  | v :: r, o, w, cs, h => by rw [World.setCells]; exact Blk_setCells_other hne r (o + 1) (h.other _ _ hne)
theorem heap_setCells_ne {b : Nat} : ∀ (vs : List Value) (o : Nat) (w : World) (k : Nat), k ≠ b → (w.setCells b o vs).heap[k]? = w.heap[k]?
  | [], _, _, _, _ => rfl
  | v :: r, o, w, k, h => by rw [World.setCells, heap_setCells_ne r (o + 1) _ k h]; exact Below.heap_setCell w _ _ k h
/-- A cell is written. -/
theorem MemG.store {w : World} {T p rb cap : Nat} {cur : Array Value} {g : Nat → Nat} {ev : Value} {M : Mm} {F : Nat → Prop} (h : MemG w T p rb cap cur g ev M F) {i j : Nat} (hi : i < M.regs.length) (hj : j < M.regs[i].length) {c : List Int} (hc : c.length = 12) (hw : ∀ x ∈ c, Word x) :
    MemG (w.setCells (g i) (12 * j) (wv c)) T p rb cap cur g ev (M.put i j c) F := by
  have hlen : (M.put i j c).regs.length = M.regs.length := by simp [Mm.put]
  have hput : ∀ k (hk : k < M.regs.length), (M.put i j c).regs[k]'(by rw [hlen]; exact hk) = if i = k then M.regs[k].set j c else M.regs[k] := fun k hk => by simp [Mm.put, List.getElem_modify]
  have hll : ∀ k (hk : k < M.regs.length), ((M.put i j c).regs[k]'(by rw [hlen]; exact hk)).length = M.regs[k].length := fun k hk => by
    rw [hput k hk]
    split <;> simp
  have hok := fun k (hk : k < M.regs.length) => h.ok.1 _ (List.getElem_mem hk)
  exact {
    box := by rw [hlen]; exact Blk_setCells_other (h.pg i hi) _ _ h.box
    row := Blk_setCells_other (h.rg i hi) _ _ h.row
    capn := h.capn
    lecap := by rw [hlen]; exact h.lecap
    capm := h.capm
    slot := fun k hk => by
      rw [hlen] at hk
      rw [hll k hk]
      exact h.slot k hk
    cells := fun k hk => by
      rw [hlen] at hk
      rw [hput k hk]
      by_cases hik : i = k
      · subst hik
        rw [if_pos rfl]
        obtain ⟨cs', h1, h2, h3⟩ := Blk_setCells (w := w) (wv c) (12 * j) (h.cells i hi)
        have hfl := flat_len (fun c hc => ((hok i hi).2 c hc).1)
        have : cs' = (wv (M.regs[i].set j c).flatten).toArray := by
          apply Array.ext_getElem?
          intro m
          rw [h3 m, List.getElem?_toArray]
          simp only [wv, List.length_map, List.size_toArray, List.getElem?_toArray, List.getElem?_map]
          rw [flat_set (fun c hc => ((hok i hi).2 c hc).1) j hj hc m, hc, hfl]
          by_cases hm : 12 * j ≤ m ∧ m < 12 * j + 12
          · rw [if_pos (by omega), if_pos hm]
          · rw [if_neg (by omega), if_neg hm]
        rw [← this]
        exact h1
      · rw [if_neg hik]
        exact Blk_setCells_other (fun e => hik (h.gg k i hk hi e).symm) _ _ (h.cells k hk)
    evs := ownsRow_keep h.evs fun k hk => heap_setCells_ne _ _ _ k ((h.pe k hk).2.2 i hi)
    inP := h.inP
    inR := h.inR
    inG := fun k hk => h.inG k (by rw [hlen] at hk; exact hk)
    inE := h.inE
    pr := h.pr
    pg := fun k hk => h.pg k (by rw [hlen] at hk; exact hk)
    rg := fun k hk => h.rg k (by rw [hlen] at hk; exact hk)
    gg := fun k l hk hl => h.gg k l (by rw [hlen] at hk; exact hk) (by rw [hlen] at hl; exact hl)
    pe := fun k hk => ⟨(h.pe k hk).1, (h.pe k hk).2.1, fun l hl => (h.pe k hk).2.2 l (by rw [hlen] at hl; exact hl)⟩
    lt := fun k hk => by rw [size_setCells]; exact h.lt k hk
    ok := Mm.put_ok h.ok _ _ hc hw }
end Go.Proofs.YthchfdobdghdoaaGreat
end
section

/-
  The walks of Size, Fault, Many, of both memories.
-/
namespace Go.Proofs.YthchfdobdghdoaaGreat
open Go.RowKit Go.Sg

theorem memSize_any {p : Nat} {M : Mm} {F : Nat → Prop} (r : Int) (w : World) (h : MemRep w 88 p M F) : Calls Tryz.prog 45 #[.pointer (some ⟨p, 0, none⟩), .int .i64 r] w fun e w' => e = .returned (.int .i64 (M.size r)) ∧ w' = w := by
  obtain ⟨rb, cap, cur, g, ev, h⟩ := h
  have cb : w.cell? ⟨p, 0, none⟩ = some (.slice (some ⟨rb, 0, none⟩) M.regs.length cap) := by rw [h.box.cell]; rfl
  have hcap := h.lecap
  have hcm := h.capm
  unfold maxLen at hcm
  by_cases hr : r < 0
  · have b0 : decide (r < 0) = true := decide_eq_true hr
    have HV := Lib.hid (Mm.size_neg (M := M) hr)
    clear h
    go_enter Tryz.func45, Tryz.ntmps45
    go_wp2
    go_ret
    exact ⟨ret_i64 (by rw [HV.out]; rfl), rfl⟩
  · have b0 : decide (r < 0) = false := decide_eq_false hr
    obtain ⟨i, rfl⟩ : ∃ i : Nat, r = i := ⟨r.toNat, by omega⟩
    by_cases hi : i < M.regs.length
    · have HV := Lib.hid (Mm.size_in (M := M) hi)
      have cs : w.cell? ⟨rb, i, none⟩ = some (.slice (some ⟨g i, 0, none⟩) M.regs[i].length M.regs[i].length) := by rw [h.row.cell]; exact h.slot i hi
      have b1 : decide ((M.regs.length : Int) ≤ (i : Int)) = false := decide_eq_false (by omega)
      have b2 : decide (M.regs.length ≤ i) = false := decide_eq_false (by omega)
      generalize M.regs[i].length = l at *
      generalize M.regs.length = n at *
      clear h
      go_enter Tryz.func45, Tryz.ntmps45
      go_wp2
      go_ret
      exact ⟨ret_i64 (by rw [HV.out]), rfl⟩
    · have HV := Lib.hid (Mm.size_out (M := M) (Nat.le_of_not_lt hi))
      have b1 : decide ((M.regs.length : Int) ≤ (i : Int)) = true := decide_eq_true (by omega)
      have b2 : decide (M.regs.length ≤ i) = true := decide_eq_true (by omega)
      generalize M.regs.length = n at *
      clear h
      go_enter Tryz.func45, Tryz.ntmps45
      go_wp2
      go_ret
      exact ⟨ret_i64 (by rw [HV.out]; rfl), rfl⟩
theorem ref3Size_any {p : Nat} {M : Mm} {F : Nat → Prop} (r : Int) (w : World) (h : MemRep w 71 p M F) : Calls Tryz.prog 28 #[.pointer (some ⟨p, 0, none⟩), .int .i64 r] w fun e w' => e = .returned (.int .i64 (M.size r)) ∧ w' = w := by
  obtain ⟨rb, cap, cur, g, ev, h⟩ := h
  have cb : w.cell? ⟨p, 0, none⟩ = some (.slice (some ⟨rb, 0, none⟩) M.regs.length cap) := by rw [h.box.cell]; rfl
  have hcap := h.lecap
  have hcm := h.capm
  unfold maxLen at hcm
  by_cases hr : r < 0
  · have b0 : decide (r < 0) = true := decide_eq_true hr
    have HV := Lib.hid (Mm.size_neg (M := M) hr)
    clear h
    go_enter Tryz.func28, Tryz.ntmps28
    go_wp2
    go_ret
    exact ⟨ret_i64 (by rw [HV.out]; rfl), rfl⟩
  · have b0 : decide (r < 0) = false := decide_eq_false hr
    obtain ⟨i, rfl⟩ : ∃ i : Nat, r = i := ⟨r.toNat, by omega⟩
    by_cases hi : i < M.regs.length
    · have HV := Lib.hid (Mm.size_in (M := M) hi)
      have cs : w.cell? ⟨rb, i, none⟩ = some (.slice (some ⟨g i, 0, none⟩) M.regs[i].length M.regs[i].length) := by rw [h.row.cell]; exact h.slot i hi
      have b1 : decide ((M.regs.length : Int) ≤ (i : Int)) = false := decide_eq_false (by omega)
      have b2 : decide (M.regs.length ≤ i) = false := decide_eq_false (by omega)
      generalize M.regs[i].length = l at *
      generalize M.regs.length = n at *
      clear h
      go_enter Tryz.func28, Tryz.ntmps28
      go_wp2
      go_ret
      exact ⟨ret_i64 (by rw [HV.out]), rfl⟩
    · have HV := Lib.hid (Mm.size_out (M := M) (Nat.le_of_not_lt hi))
      have b1 : decide ((M.regs.length : Int) ≤ (i : Int)) = true := decide_eq_true (by omega)
      have b2 : decide (M.regs.length ≤ i) = true := decide_eq_true (by omega)
      generalize M.regs.length = n at *
      clear h
      go_enter Tryz.func28, Tryz.ntmps28
      go_wp2
      go_ret
      exact ⟨ret_i64 (by rw [HV.out]; rfl), rfl⟩

theorem owns_slice {w : World} {base : Nat} {e : TypeId} {size : Nat} {v : Value} {n : Nat} {xs : List Value} (h : w.ownsRow base e size v n xs) : ∃ a cap, v = .slice a n cap := by
  rcases h.2 with ⟨rfl, rfl⟩ | ⟨g, cap, cur, rfl, _⟩
  · exact ⟨none, 0, rfl⟩
  · exact ⟨_, cap, rfl⟩

end Go.Proofs.YthchfdobdghdoaaGreat
end
