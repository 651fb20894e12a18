/-
  Joined texts: OneF.
-/
import Derived.Test.YthchfdobdghdoaaGreatHbc
import Derived.Test.YthchfdobdghdoaaGreatHai
import Derived.Test.YthchfdobdghdoaaGreatHbh
import Derived.Test.YthchfdobdghdoaaGreatHbj
set_option linter.unusedVariables false
set_option linter.unusedSimpArgs false
set_option linter.unusedSectionVars false
set_option linter.unnecessarySimpa false
section

/-
  A memory, and blocks beside it that are filled and turned; slices of pairs beside it.
-/
namespace Go.Sg
open Go Go.RowKit
theorem zip_mk2 (b : Bool) (x y : List Int) (h : x.length = y.length) (hx : ∀ z ∈ x, Word z) (hy : ∀ z ∈ y, Word z) : List.zipWith (pk (mk b)) x y = if b then x else y := by
  cases b
  · exact zip_zero x y h hx hy
  · exact zip_max x y h hx hy
theorem zip_sw (b : Bool) : ∀ (x y : List Int), x.length = y.length → (∀ z ∈ x, Word z) → (∀ z ∈ y, Word z) → List.zipWith (sw1 (mk b)) x y = if b then y else x
  | [], [], _, _, _ => by cases b <;> rfl
  | [], _ :: _, h, _, _ => by simp at h
  | _ :: _, [], h, _, _ => by simp at h
  | a :: x, c :: y, h, hx, hy => by
    have ih := zip_sw b x y (by simpa using h) (fun z hz => hx z (List.mem_cons_of_mem _ hz)) (fun z hz => hy z (List.mem_cons_of_mem _ hz))
    rw [List.zipWith_cons_cons, ih, sw1_mk b (hx a List.mem_cons_self) (hy c List.mem_cons_self)]
    cases b <;> rfl
end Go.Sg
namespace Go.Proofs.YthchfdobdghdoaaGreat
open Go Go.RowKit Go.Sg
variable {T : Nat} {w0 w w' : World} {p : Nat} {M : Mm} {D : Nat → Prop} {X : World → Prop}
theorem info_cF (l : List Int) (h : l.length = 12) : (Tryz.prog.info? 74).map (·.size) = some (wv l).length := by rw [wv_len, h]; kernel_rfl
theorem OneX.dltF (h : OneX T w0 w p M D X) : ∀ k, D k → k < w.heap.size := by
  obtain ⟨F, _, _, _, _, h5, _⟩ := h
  exact h5
/-- a new block beside a memory is filled -/
theorem OneX.fillF (hK : Keeps D X) (h : OneX T w0 w p M D X) (cs c2 : Array Value) (t : TypeId) :
    OneX T w0 ((w.alloc (.cells cs t)).setRow w.heap.size c2) p M (fun i => D i ∨ i = w.heap.size) (fun w' => X w' ∧ Blk w' w.heap.size c2 t) := by
  have hb := h.box hK cs t
  have hD := h.dltF
  exact hb.turn (fun _ h => h) (mframe_setRow (MFrame.refl _ _) ⟨.inr rfl, h.old.size⟩ _) ⟨hK _ _ (by simp [World.setRow]) (fun i hi => setRow_other _ _ _ _ (Nat.ne_of_lt (hD i hi))) hb.x.1, hb.x.2.setRow _⟩
/-- a block beside it turns whole -/
theorem OneX.rowF {b : Nat} {cs c2 : Array Value} {t : TypeId} (hK : Keeps D X) (hb : ∀ k, D k → k ≠ b) (h : OneX T w0 w p M (fun i => D i ∨ i = b) (fun w => X w ∧ Blk w b cs t)) (hw : w0.heap.size ≤ b) :
    OneX T w0 (w.setRow b c2) p M (fun i => D i ∨ i = b) (fun w => X w ∧ Blk w b c2 t) :=
  h.turn (fun _ h => h) (mframe_setRow (MFrame.refl _ _) ⟨.inr rfl, hw⟩ _) ⟨hK _ _ (by simp [World.setRow]) (fun i hi => setRow_other _ _ _ _ (hb i hi)) h.x.1, h.x.2.setRow _⟩
theorem blk_all {w : World} {b : Nat} {cs : Array Value} {t : TypeId} (vs : List Value) (h : Blk w b cs t) (hs : cs.size = vs.length) : Blk (w.setCells b 0 vs) b vs.toArray t := by
  obtain ⟨cs', h1, h2, h3⟩ := Blk_setCells vs 0 h
  have : cs' = vs.toArray := by
    apply Array.ext_getElem?
    intro m
    rw [h3 m, List.getElem?_toArray, Nat.sub_zero]
    by_cases hm : m < vs.length
    · rw [if_pos (by omega)]
      simp
    · rw [if_neg (by omega)]
      simp [show cs.size ≤ m by omega, show vs.length ≤ m by omega]
  rw [← this]
  exact h1
/-! ### Boxes of twelve cells that a region makes in whatever order -/
structure Z0 (T : Nat) (w0 w : World) (p : Nat) (M : Mm) (D : Nat → Prop) (X : World → Prop) : Prop where
  keeps : Keeps D X
  one : OneX T w0 w p M D X
structure Z1 (t T : Nat) (w0 w : World) (p : Nat) (M : Mm) (D : Nat → Prop) (X : World → Prop) (a : Nat) : Prop where
  keeps : Keeps D X
  one : OneX T w0 w p M (fun i => D i ∨ i = a) (fun w' => X w' ∧ Blk w' a z12 t)
  ne : ∀ k, D k → k ≠ a
  ge : w0.heap.size ≤ a
structure Z2 (t T : Nat) (w0 w : World) (p : Nat) (M : Mm) (D : Nat → Prop) (X : World → Prop) (a b : Nat) : Prop where
  keeps : Keeps D X
  one : OneX T w0 w p M (fun i => (D i ∨ i = a) ∨ i = b) (fun w' => (X w' ∧ Blk w' a z12 t) ∧ Blk w' b z12 t)
  ne : ∀ k, D k → k ≠ a ∧ k ≠ b
  ab : a ≠ b
  ge : w0.heap.size ≤ a ∧ w0.heap.size ≤ b
section
variable {t a b : Nat}
theorem Z0.x (h : Z0 T w0 w p M D X) : X w := h.one.x
theorem Z1.x (h : Z1 t T w0 w p M D X a) : X w := h.one.x.1
theorem Z2.x (h : Z2 t T w0 w p M D X a b) : X w := h.one.x.1.1
theorem Z0.alloc (h : Z0 T w0 w p M D X) : Z1 t T w0 (w.alloc (.cells z12 t)) p M D X w.heap.size :=
  ⟨h.keeps, h.one.box h.keeps z12 t, fun k hk => Nat.ne_of_lt (h.one.dltF k hk), h.one.old.size⟩
theorem Z1.alloc (h : Z1 t T w0 w p M D X a) : Z2 t T w0 (w.alloc (.cells z12 t)) p M D X a w.heap.size :=
  ⟨h.keeps, h.one.box (keeps_and h.keeps (keeps_blk a z12 t)) z12 t, fun k hk => ⟨h.ne k hk, Nat.ne_of_lt (h.one.dltF k (.inl hk))⟩, Nat.ne_of_lt (h.one.dltF a (.inr rfl)), h.ge, h.one.old.size⟩
variable {P : Program} {f : FuncId} {args : Array Value} {R : Ending → Prop} {M' : Mm}
theorem Z0.call (h : Z0 T w0 w p M D X) (hc : ∀ (D' : Nat → Prop) (X' : World → Prop), Keeps D' X' → OneX T w0 w p M D' X' → Calls P f args w fun e w' => R e ∧ OneX T w0 w' p M' D' X') :
    Calls P f args w fun e w' => R e ∧ Z0 T w0 w' p M' D X := (hc _ _ h.keeps h.one).mono fun _ _ ⟨he, hx⟩ => ⟨he, h.keeps, hx⟩
theorem Z1.call (h : Z1 t T w0 w p M D X a) (hc : ∀ (D' : Nat → Prop) (X' : World → Prop), Keeps D' X' → OneX T w0 w p M D' X' → Calls P f args w fun e w' => R e ∧ OneX T w0 w' p M' D' X') :
    Calls P f args w fun e w' => R e ∧ Z1 t T w0 w' p M' D X a := (hc _ _ (keeps_and h.keeps (keeps_blk a z12 t)) h.one).mono fun _ _ ⟨he, hx⟩ => ⟨he, h.keeps, hx, h.ne, h.ge⟩
theorem Z2.call (h : Z2 t T w0 w p M D X a b) (hc : ∀ (D' : Nat → Prop) (X' : World → Prop), Keeps D' X' → OneX T w0 w p M D' X' → Calls P f args w fun e w' => R e ∧ OneX T w0 w' p M' D' X') :
    Calls P f args w fun e w' => R e ∧ Z2 t T w0 w' p M' D X a b := (hc _ _ (keeps_and (keeps_and h.keeps (keeps_blk a z12 t)) (keeps_blk b z12 t)) h.one).mono fun _ _ ⟨he, hx⟩ => ⟨he, h.keeps, hx, h.ne, h.ab, h.ge⟩
theorem Z2.there (h : Z2 t T w0 w p M D X a b) (l1 l2 : List Value) (h1 : l1.length = 12) (h2 : l2.length = 12) : w.there a 0 l1.length ∧ (w.setCells a 0 l1).there b 0 l2.length ∧ w.there b 0 l1.length ∧ (w.setCells b 0 l1).there a 0 l2.length := by
  have t1 := h.one.x.1.2.there 12 (by decide)
  have t2 := h.one.x.2.there 12 (by decide)
  rw [h1, h2]
  exact ⟨t1, World.there_setCells t2 _ _ _, t2, World.there_setCells t1 _ _ _⟩
/-- both are filled -/
theorem Z2.fill (h : Z2 t T w0 w p M D X a b) (l1 l2 : List Value) (h1 : l1.length = 12) (h2 : l2.length = 12) :
    OneX T w0 ((w.setCells a 0 l1).setCells b 0 l2) p M (fun i => (D i ∨ i = a) ∨ i = b) (fun w' => (X w' ∧ Blk w' a l1.toArray t) ∧ Blk w' b l2.toArray t) ∧
    OneX T w0 ((w.setCells b 0 l1).setCells a 0 l2) p M (fun i => (D i ∨ i = b) ∨ i = a) (fun w' => (X w' ∧ Blk w' b l1.toArray t) ∧ Blk w' a l2.toArray t) := by
  have b1 := h.one.x.1.2
  have b2 := h.one.x.2
  have hx := h.one.x.1.1
  have hab := h.ab
  obtain ⟨ga, gb⟩ := h.ge
  have z1 : z12.size = 12 := rfl
  have hwa := h.one.old.size
  constructor
  · refine h.one.turn (fun _ h => h) (((MFrame.refl _ _).setCells l1 0 (.inl ⟨.inl (.inr rfl), ga⟩)).trans ((MFrame.refl _ _).setCells l2 0 (.inl (.inl ⟨.inr rfl, gb⟩)))) ⟨⟨?_, ?_⟩, ?_⟩
    · refine h.keeps _ _ (by rw [size_setCells, size_setCells]; exact Nat.le_refl _) (fun i hi => ?_) hx
      have := h.ne i hi
      rw [heap_setCells_ne _ _ _ _ this.2, heap_setCells_ne _ _ _ _ this.1]
    · have := blk_all l1 b1 (by omega)
      unfold Blk at this ⊢
      rw [heap_setCells_ne _ _ _ _ hab]
      exact this
    · refine blk_all (cs := z12) l2 ?_ (by omega)
      unfold Blk at b2 ⊢
      rw [heap_setCells_ne _ _ _ _ (Ne.symm hab)]
      exact b2
  · refine h.one.turn (fun _ h => h.elim (fun h => h.elim (fun h => .inl (.inl h)) .inr) (fun h => .inl (.inr h))) (((MFrame.refl _ _).setCells l1 0 (.inl ⟨.inr rfl, gb⟩)).trans ((MFrame.refl _ _).setCells l2 0 (.inl (.inl ⟨.inl (.inr rfl), ga⟩)))) ⟨⟨?_, ?_⟩, ?_⟩
    · refine h.keeps _ _ (by rw [size_setCells, size_setCells]; exact Nat.le_refl _) (fun i hi => ?_) hx
      have := h.ne i hi
      rw [heap_setCells_ne _ _ _ _ this.1, heap_setCells_ne _ _ _ _ this.2]
    · have := blk_all l1 b2 (by omega)
      unfold Blk at this ⊢
      rw [heap_setCells_ne _ _ _ _ (Ne.symm hab)]
      exact this
    · refine blk_all (cs := z12) l2 ?_ (by omega)
      unfold Blk at b1 ⊢
      rw [heap_setCells_ne _ _ _ _ hab]
      exact b1
end
theorem OneX.drewN2 (hK : Keeps D X) (h : OneX T w0 w p M D X) (n : Nat) : OneX T w0 (w.drewN n) p M D X := h.below hK (below_drewN' (Below.refl _ _))
/-- two blocks beside it turn whole -/
theorem OneX.turn2 {A C t : Nat} {c1 c2 : Array Value} (hK : Keeps D X) (hne : ∀ k, D k → k ≠ A ∧ k ≠ C) (hAC : A ≠ C) (h : OneX T w0 w p M (fun i => (D i ∨ i = A) ∨ i = C) (fun w' => (X w' ∧ Blk w' A c1 t) ∧ Blk w' C c2 t)) (hw : w0.heap.size ≤ A ∧ w0.heap.size ≤ C) (n1 n2 : Array Value) :
    Blk (w.setRow A n1) C c2 t ∧ OneX T w0 ((w.setRow A n1).setRow C n2) p M (fun i => (D i ∨ i = A) ∨ i = C) (fun w' => (X w' ∧ Blk w' A n1 t) ∧ Blk w' C n2 t) := by
  have b1 := h.x.1.2
  have b2 := h.x.2
  have b3 : Blk (w.setRow A n1) C c2 t := b2.rowOther n1 (Ne.symm hAC)
  refine ⟨b3, h.turn (fun _ h => h) (mframe_setRow (mframe_setRow (MFrame.refl _ _) ⟨.inl (.inr rfl), hw.1⟩ _) ⟨.inr rfl, hw.2⟩ _) ⟨⟨?_, ?_⟩, b3.setRow _⟩⟩
  · refine hK _ _ (by simp [World.setRow]) (fun i hi => ?_) h.x.1.1
    have := hne i hi
    rw [setRow_other _ _ _ _ this.2, setRow_other _ _ _ _ this.1]
  · exact (b1.setRow n1).rowOther n2 hAC
/-- the blocks of a slice of pairs -/
def OwnP (v : Value) (ps : List Pr) : Nat → Prop := fun k => v.ownBlock = some k ∧ ps ≠ []
/-- The slice v reads as the pairs ps. -/
def SlQ (w : World) (v : Value) (ps : List Pr) : Prop :=
  ∃ a cap, v = .slice a ps.length cap ∧ ps.length ≤ cap ∧ cap ≤ maxLen ∧ (ps ≠ [] → ∃ b off, a = some ⟨b, off, none⟩ ∧ b < w.heap.size ∧ w.rangeAt b off (prsV ps))
theorem SlQ.of_owns {w : World} {base : Nat} {e : TypeId} {v : Value} {ps : List Pr} (h : w.ownsRow base e 3 v ps.length (prsV ps)) : SlQ w v ps := by
  rcases h.2 with ⟨rfl, h0⟩ | ⟨g, cap, cur, rfl, hb, hg, hn, hm, hsz, ht⟩
  · have : ps = [] := List.length_eq_zero_iff.1 h0
    subst this
    exact ⟨none, 0, rfl, Nat.le_refl _, by simp, fun h => absurd rfl h⟩
  · refine ⟨_, cap, rfl, hn, hm, fun _ => ⟨g, 0, rfl, lt_of_block hg, fun j u hu => ?_⟩⟩
    rw [Nat.zero_add, cell_of_row w g j cur e (0, 0) hg]
    rw [← ht, List.getElem?_take] at hu
    split at hu
    · simpa using hu
    · simp at hu
theorem slQ_own_lt {w : World} {v : Value} {ps : List Pr} (h : SlQ w v ps) : ∀ k, OwnP v ps k → k < w.heap.size := by
  rintro k ⟨h1, h2⟩
  obtain ⟨a, cap, rfl, _, _, h3⟩ := h
  obtain ⟨b, off, rfl, hlt, _⟩ := h3 h2
  cases h1
  exact hlt
theorem keeps_slQ (v : Value) (ps : List Pr) : Keeps (OwnP v ps) (fun w => SlQ w v ps) := by
  rintro w w' hs hb ⟨a, cap, rfl, h1, h2, h3⟩
  refine ⟨a, cap, rfl, h1, h2, fun hn => ?_⟩
  obtain ⟨b, off, rfl, hlt, hr⟩ := h3 hn
  have hk := hb b ⟨rfl, hn⟩
  exact ⟨b, off, rfl, Nat.lt_of_lt_of_le hlt hs, fun j u hu => (cell_of_heap hk).trans (hr j u hu)⟩
theorem prsV_at2 (ps : List Pr) (k : Nat) (hk : k < ps.length) (j : Nat) (u : Value) (h : (prc ps[k])[j]? = some u) : (prsV ps)[k * 3 + j]? = some u := by
  induction ps generalizing k with
  | nil => cases hk
  | cons e es ih =>
    have h3 : prsV (e :: es) = prc e ++ prsV es := rfl
    rw [h3]
    cases k with
    | zero =>
      have hj : j < 3 := by
        have := (List.getElem?_eq_some_iff.1 h).1
        simpa [prc] using this
      rw [Nat.zero_mul, Nat.zero_add, List.getElem?_append_left (by simpa [prc] using hj)]
      exact h
    | succ k =>
      have : (k + 1) * 3 + j = (prc e).length + (k * 3 + j) := by simp [prc]; omega
      rw [this, List.getElem?_append_right (by omega), Nat.add_sub_cancel_left]
      exact ih k (by simpa using hk) (by simpa using h)
theorem SlQ.row {w : World} {v : Value} {ps : List Pr} (h : SlQ w v ps) {k : Nat} (hk : k < ps.length) : ∃ b off cap, v = .slice (some ⟨b, off, none⟩) ps.length cap ∧ b < w.heap.size ∧ w.rangeAt b (off + k * 3) (prc ps[k]) := by
  obtain ⟨a, cap, rfl, _, _, h3⟩ := h
  obtain ⟨b, off, rfl, hlt, hr⟩ := h3 (fun e => by rw [e] at hk; cases hk)
  exact ⟨b, off, cap, rfl, hlt, fun j u hu => by rw [Nat.add_assoc]; exact hr _ u (prsV_at2 ps k hk j u hu)⟩
end Go.Proofs.YthchfdobdghdoaaGreat
end
