/-
  Two levels of one memory and one of another, and what lies beside them.
-/
import Derived.Test.YtiimdgdimjjboaaLvFlat
import Derived.Test.YtiimdgdimjjboaaLvTwo
import Derived.Test.YtiimdgdimjjboaaHba
set_option linter.unusedVariables false
set_option linter.unusedSimpArgs false
set_option linter.unusedSectionVars false
set_option linter.unnecessarySimpa false
namespace Go.Proofs.Ytiimdgdimjjboaa
open Go Go.RowKit Go.Sg
variable {w0 w w' : World} {p p2 q ib : Nat} {c d : Lc} {first : Int} {M N : Mm} {D : Nat → Prop} {X : World → Prop}
theorem PairX.lt2 {T T' : Nat} (h : PairX T T' w0 w p p2 M N D X) : ∀ k, D k → k < w.heap.size := by
  obtain ⟨G, h1, _, _⟩ := h
  exact fun k hk => h1.ltD k (.inl hk)
/-- a call of a level's method, beside another memory -/
theorem PairX.lv {T : Nat} {P : Program} {f : FuncId} {args : Array Value} {R : Ending → Prop} {o : Bool} {i : List Int} {S' : Ls} (hK : Keeps D X)
    (h : PairX 110 T w0 w p p2 M N (fun k => D k ∨ (k = q ∨ k = ib)) (fun w => X w ∧ LvX p q ib c first o i w)) (hoff : ∀ k, D k → k ≠ q ∧ k ≠ ib) (hne : q ≠ ib) (hge : w0.heap.size ≤ q ∧ w0.heap.size ≤ ib)
    (hc : ∀ (D' : Nat → Prop) (X' : World → Prop), Keeps D' X' → LvR w0 w p q ib c first ⟨M, o, i⟩ D' X' → Calls P f args w fun e w' => R e ∧ LvR w0 w' p q ib c first S' D' X') :
    Calls P f args w fun e w' => R e ∧ PairX 110 T w0 w' p p2 S'.M N (fun k => D k ∨ (k = q ∨ k = ib)) (fun w => X w ∧ LvX p q ib c first S'.over S'.ids w) := by
  obtain ⟨G, h1, hG, hDG⟩ := h
  have lv : LvR w0 w p q ib c first ⟨M, o, i⟩ (fun k => D k ∨ G k) (fun w => X w ∧ MemX T p2 N G w) := by
    refine ⟨h1.less (fun k hk => ?_) (fun hx => ⟨⟨hx.1.1, hx.2⟩, hx.1.2⟩), fun k hk => ?_, hne, hge⟩
    · rcases hk with (hk | hk) | hk
      · exact .inl (.inl hk)
      · exact .inr hk
      · exact .inl (.inr hk)
    · rcases hk with hk | hk
      · exact hoff k hk
      · exact ⟨fun e => hDG q (.inr (.inl rfl)) (e ▸ hk), fun e => hDG ib (.inr (.inr rfl)) (e ▸ hk)⟩
  refine (hc _ _ (keeps_and hK (keeps_mem _ _ _ _)) lv).mono fun e w' ⟨he, h2⟩ => ⟨he, G, h2.one.less (fun k hk => ?_) (fun hx => ⟨⟨hx.1.1, hx.2⟩, hx.1.2⟩), hG, hDG⟩
  rcases hk with (hk | hk) | hk
  · exact .inl (.inl hk)
  · exact .inr hk
  · exact .inl (.inr hk)
/-- two memories, the one made ahead of the other -/
theorem PairX.join {T T' : Nat} {D2 : Nat → Prop} {X2 : World → Prop} (hK : Keeps D X) (h : OneX T w0 w p M D X) (h2 : OneX T' w w' p2 N D2 X2) (hD2 : ∀ k, D2 k → w.heap.size ≤ k) : PairX T T' w0 w' p p2 M N (fun k => D k ∨ D2 k) (fun w => X w ∧ X2 w) := by
  have hlt := h.ltD
  obtain ⟨G, m, g1, g2, g3, g4, g5⟩ := h2
  have h3 := h.ret hK (E := fun k => D2 k ∨ G k) (Y := fun w => X2 w ∧ MemX T' p2 N G w) g2 (fun k hk => ?_) ⟨g5, m⟩
  · refine ⟨G, h3.less (fun k hk => ?_) (fun hx => ⟨⟨hx.1, hx.2.1⟩, hx.2.2⟩), fun k hk => Nat.le_trans h.old.size (g1 k hk), fun k hk hg => ?_⟩
    · rcases hk with (hk | hk) | hk
      · exact .inl hk
      · exact .inr (.inl hk)
      · exact .inr (.inr hk)
    · rcases hk with hk | hk
      · have := hlt k hk
        have := g1 k hg
        omega
      · exact g3 k hk hg
  · rcases hk with hk | hk
    · exact ⟨hD2 k hk, g4 k hk⟩
    · exact ⟨g1 k hk, m.lt k hk⟩
/-- where the levels lie -/
structure TwP where
  p : Nat
  p2 : Nat
  qx : Nat
  ix : Nat
  qy : Nat
  iy : Nat
  qz : Nat
  iz : Nat
def TwD (P : TwP) : Nat → Prop := fun k => ((k = P.qx ∨ k = P.ix) ∨ (k = P.qy ∨ k = P.iy)) ∨ (k = P.qz ∨ k = P.iz)
structure TwN (P : TwP) (B : Nat) : Prop where
  x : P.qx ≠ P.ix
  y : P.qy ≠ P.iy
  z : P.qz ≠ P.iz
  xy : P.qx ≠ P.qy ∧ P.qx ≠ P.iy ∧ P.ix ≠ P.qy ∧ P.ix ≠ P.iy
  xz : P.qx ≠ P.qz ∧ P.qx ≠ P.iz ∧ P.ix ≠ P.qz ∧ P.ix ≠ P.iz
  yz : P.qy ≠ P.qz ∧ P.qy ≠ P.iz ∧ P.iy ≠ P.qz ∧ P.iy ≠ P.iz
  ge : B ≤ P.qx ∧ B ≤ P.ix ∧ B ≤ P.qy ∧ B ≤ P.iy ∧ B ≤ P.qz ∧ B ≤ P.iz
/-- what they hold -/
structure TwS where
  M : Mm
  ox : Bool
  jx : List Int
  oy : Bool
  jy : List Int
  Z : Ls
def TwX (P : TwP) (c d : Lc) (S : TwS) : World → Prop := fun w => (LvX P.p P.qx P.ix c 0 S.ox S.jx w ∧ LvX P.p P.qy P.iy d 3 S.oy S.jy w) ∧ LvX P.p2 P.qz P.iz c 1 S.Z.over S.Z.ids w
structure TwR (w0 w : World) (P : TwP) (c d : Lc) (S : TwS) (D : Nat → Prop) (X : World → Prop) : Prop where
  pair : PairX 110 110 w0 w P.p P.p2 S.M S.Z.M (fun k => D k ∨ TwD P k) (fun w => X w ∧ TwX P c d S w)
  off : ∀ k, D k → ¬ TwD P k
  n : TwN P w0.heap.size
theorem keeps_tw (P : TwP) (c d : Lc) (S : TwS) : Keeps (TwD P) (TwX P c d S) := keeps_and (keeps_and (keeps_lv _ _ _ _ _ _ _) (keeps_lv _ _ _ _ _ _ _)) (keeps_lv _ _ _ _ _ _ _)
variable {P : TwP} {S : TwS}
theorem TwR.x (h : TwR w0 w P c d S D X) : X w := h.pair.x.1
theorem TwR.old (h : TwR w0 w P c d S D X) : Below w0.heap.size w0 w := h.pair.old
theorem TwR.below (hK : Keeps D X) (h : TwR w0 w P c d S D X) (hb : Below w.heap.size w w') : TwR w0 w' P c d S D X := ⟨h.pair.below (keeps_and hK (keeps_tw _ _ _ _)) hb, h.off, h.n⟩
theorem TwR.less {E : Nat → Prop} {Y : World → Prop} (h : TwR w0 w P c d S D X) (hE : ∀ k, E k → D k) (hy : ∀ w, X w → Y w) : TwR w0 w P c d S E Y :=
  ⟨h.pair.less (fun k hk => hk.imp (hE k) id) (fun hx => ⟨hy _ hx.1, hx.2⟩), fun k hk => h.off k (hE k hk), h.n⟩
theorem TwR.lt (h : TwR w0 w P c d S D X) : ∀ k, D k ∨ TwD P k → k < w.heap.size := h.pair.lt2
theorem TwR.box (hK : Keeps D X) (h : TwR w0 w P c d S D X) (cs : Array Value) (t : TypeId) : TwR w0 (w.alloc (.cells cs t)) P c d S (fun k => D k ∨ k = w.heap.size) (fun w' => X w' ∧ Blk w' w.heap.size cs t) := by
  have hl := h.lt
  have hb := h.pair.box (keeps_and hK (keeps_tw _ _ _ _)) cs t
  refine ⟨hb.less (fun k hk => ?_) (fun hx => ⟨⟨hx.1.1, hx.2⟩, hx.1.2⟩), fun k hk ht => ?_, h.n⟩
  · rcases hk with (hk | hk) | hk
    · exact .inl (.inl hk)
    · exact .inr hk
    · exact .inl (.inr hk)
  · rcases hk with hk | hk
    · exact h.off k hk ht
    · have := hl k (.inr ht)
      omega
/-- a new box of data -/
structure TwB (w0 w : World) (P : TwP) (c d : Lc) (S : TwS) (D : Nat → Prop) (X : World → Prop) (b : Nat) : Prop where
  one : TwR w0 w P c d S (fun k => D k ∨ k = b) (fun w' => X w' ∧ Blk w' b zd8 66)
  keeps : Keeps D X
  ne : ∀ k, D k → k ≠ b
  ge : w0.heap.size ≤ b
theorem TwB.new (hK : Keeps D X) (h : TwR w0 w P c d S D X) : TwB w0 (w.alloc (.cells zd8 66)) P c d S D X w.heap.size :=
  ⟨h.box hK zd8 _, hK, fun k hk => Nat.ne_of_lt (h.lt k (.inl hk)), h.old.size⟩
theorem TwB.below {b : Nat} (h : TwB w0 w P c d S D X b) (hb : Below w.heap.size w w') : TwB w0 w' P c d S D X b :=
  ⟨h.one.below (keeps_and h.keeps (keeps_blk _ _ _)) hb, h.keeps, h.ne, h.ge⟩
theorem TwB.there {b : Nat} (h : TwB w0 w P c d S D X b) (vs : List Value) (hl : vs.length = 8) : w.there b 0 vs.length := by
  rw [hl]; exact h.one.x.2.there 8 (by decide)
theorem TwB.x {b : Nat} (h : TwB w0 w P c d S D X b) : X w := h.one.x.1
theorem TwB.old {b : Nat} (h : TwB w0 w P c d S D X b) : Below w0.heap.size w0 w := h.one.old
theorem TwB.call {b : Nat} {Q : Program} {f : FuncId} {args : Array Value} {R : Ending → Prop} {S' : TwS} (h : TwB w0 w P c d S D X b)
    (hc : ∀ (D' : Nat → Prop) (X' : World → Prop), Keeps D' X' → TwR w0 w P c d S D' X' → Calls Q f args w fun e w' => R e ∧ TwR w0 w' P c d S' D' X') :
    Calls Q f args w fun e w' => R e ∧ TwB w0 w' P c d S' D X b :=
  (hc _ _ (keeps_and h.keeps (keeps_blk _ _ _)) h.one).mono fun e w' ⟨he, hx⟩ => ⟨he, hx, h.keeps, h.ne, h.ge⟩
theorem TwB.fill {b : Nat} (h : TwB w0 w P c d S D X b) (vs : List Value) (hl : vs.length = 8) :
    TwR w0 (w.setCells b 0 vs) P c d S (fun k => D k ∨ k = b) (fun w' => X w' ∧ Blk w' b vs.toArray 66) := by
  have hoff := h.one.off b (.inr rfl)
  have hx := h.one.pair.x
  have hother : ∀ k, k ≠ b → (w.setCells b 0 vs).heap[k]? = w.heap[k]? := fun k hk => heap_setCells_neL vs 0 w k hk
  have hsz : w.heap.size ≤ (w.setCells b 0 vs).heap.size := by rw [size_setCells]; exact Nat.le_refl _
  refine ⟨h.one.pair.turn (fun k hk => hk) ((MFrame.refl _ _).setCells vs 0 (.inl ⟨.inl (.inr rfl), h.ge⟩)) ⟨⟨?_, ?_⟩, ?_⟩, h.one.off, h.one.n⟩
  · exact h.keeps w _ hsz (fun k hk => hother k (h.ne k hk)) hx.1.1
  · exact blk_all vs hx.1.2 (by rw [hl]; rfl)
  · exact keeps_tw P c d S w _ hsz (fun k hk => hother k (fun e => hoff (e ▸ hk))) hx.2
/-- the first level's accesses -/
theorem tw_x {Q : Program} {f : FuncId} {args : Array Value} {R : Ending → Prop} {S' : Ls} (hK : Keeps D X) (h : TwR w0 w P c d S D X)
    (hc : ∀ (D' : Nat → Prop) (X' : World → Prop), Keeps D' X' → LvR w0 w P.p P.qx P.ix c 0 ⟨S.M, S.ox, S.jx⟩ D' X' → Calls Q f args w fun e w' => R e ∧ LvR w0 w' P.p P.qx P.ix c 0 S' D' X') :
    Calls Q f args w fun e w' => R e ∧ TwR w0 w' P c d ⟨S'.M, S'.over, S'.ids, S.oy, S.jy, S.Z⟩ D X := by
  obtain ⟨hp, ho, hn⟩ := h
  have h1 := (hp.less (E := fun k => (D k ∨ ((k = P.qy ∨ k = P.iy) ∨ (k = P.qz ∨ k = P.iz))) ∨ (k = P.qx ∨ k = P.ix)) (Y := fun w => (X w ∧ (LvX P.p P.qy P.iy d 3 S.oy S.jy w ∧ LvX P.p2 P.qz P.iz c 1 S.Z.over S.Z.ids w)) ∧ LvX P.p P.qx P.ix c 0 S.ox S.jx w) (fun k hk => by
    rcases hk with (hk | hk | hk) | hk
    · exact .inl hk
    · exact .inr (.inl (.inr hk))
    · exact .inr (.inr hk)
    · exact .inr (.inl (.inl hk))) (fun hx => ⟨⟨hx.1, hx.2.1.2, hx.2.2⟩, hx.2.1.1⟩))
  refine (PairX.lv (keeps_and hK (keeps_and (keeps_lv _ _ _ _ _ _ _) (keeps_lv _ _ _ _ _ _ _))) h1 (fun k hk => ?_) hn.x ⟨hn.ge.1, hn.ge.2.1⟩ hc).mono fun e w' ⟨he, h2⟩ => ⟨he, ?_, ho, hn⟩
  · rcases hk with hk | (rfl | rfl) | (rfl | rfl)
    · exact ⟨fun e => ho k hk (by rw [e]; exact .inl (.inl (.inl rfl))), fun e => ho k hk (by rw [e]; exact .inl (.inl (.inr rfl)))⟩
    · exact ⟨hn.xy.1.symm, hn.xy.2.2.1.symm⟩
    · exact ⟨hn.xy.2.1.symm, hn.xy.2.2.2.symm⟩
    · exact ⟨hn.xz.1.symm, hn.xz.2.2.1.symm⟩
    · exact ⟨hn.xz.2.1.symm, hn.xz.2.2.2.symm⟩
  · refine h2.less (fun k hk => ?_) (fun hx => ⟨hx.1.1, ⟨hx.2, hx.1.2.1⟩, hx.1.2.2⟩)
    rcases hk with hk | (hk | hk) | hk
    · exact .inl (.inl hk)
    · exact .inr hk
    · exact .inl (.inr (.inl hk))
    · exact .inl (.inr (.inr hk))
/-- the second one's -/
theorem tw_y {Q : Program} {f : FuncId} {args : Array Value} {R : Ending → Prop} {S' : Ls} (hK : Keeps D X) (h : TwR w0 w P c d S D X)
    (hc : ∀ (D' : Nat → Prop) (X' : World → Prop), Keeps D' X' → LvR w0 w P.p P.qy P.iy d 3 ⟨S.M, S.oy, S.jy⟩ D' X' → Calls Q f args w fun e w' => R e ∧ LvR w0 w' P.p P.qy P.iy d 3 S' D' X') :
    Calls Q f args w fun e w' => R e ∧ TwR w0 w' P c d ⟨S'.M, S.ox, S.jx, S'.over, S'.ids, S.Z⟩ D X := by
  obtain ⟨hp, ho, hn⟩ := h
  have h1 := (hp.less (E := fun k => (D k ∨ ((k = P.qx ∨ k = P.ix) ∨ (k = P.qz ∨ k = P.iz))) ∨ (k = P.qy ∨ k = P.iy)) (Y := fun w => (X w ∧ (LvX P.p P.qx P.ix c 0 S.ox S.jx w ∧ LvX P.p2 P.qz P.iz c 1 S.Z.over S.Z.ids w)) ∧ LvX P.p P.qy P.iy d 3 S.oy S.jy w) (fun k hk => by
    rcases hk with (hk | hk | hk) | hk
    · exact .inl hk
    · exact .inr (.inl (.inl hk))
    · exact .inr (.inr hk)
    · exact .inr (.inl (.inr hk))) (fun hx => ⟨⟨hx.1, hx.2.1.1, hx.2.2⟩, hx.2.1.2⟩))
  refine (PairX.lv (keeps_and hK (keeps_and (keeps_lv _ _ _ _ _ _ _) (keeps_lv _ _ _ _ _ _ _))) h1 (fun k hk => ?_) hn.y ⟨hn.ge.2.2.1, hn.ge.2.2.2.1⟩ hc).mono fun e w' ⟨he, h2⟩ => ⟨he, ?_, ho, hn⟩
  · rcases hk with hk | (rfl | rfl) | (rfl | rfl)
    · exact ⟨fun e => ho k hk (by rw [e]; exact .inl (.inr (.inl rfl))), fun e => ho k hk (by rw [e]; exact .inl (.inr (.inr rfl)))⟩
    · exact ⟨hn.xy.1, hn.xy.2.1⟩
    · exact ⟨hn.xy.2.2.1, hn.xy.2.2.2⟩
    · exact ⟨hn.yz.1.symm, hn.yz.2.2.1.symm⟩
    · exact ⟨hn.yz.2.1.symm, hn.yz.2.2.2.symm⟩
  · refine h2.less (fun k hk => ?_) (fun hx => ⟨hx.1.1, ⟨hx.1.2.1, hx.2⟩, hx.1.2.2⟩)
    rcases hk with hk | (hk | hk) | hk
    · exact .inl (.inl hk)
    · exact .inl (.inr (.inl hk))
    · exact .inr hk
    · exact .inl (.inr (.inr hk))
/-- the third one's, in its own memory -/
theorem tw_z {Q : Program} {f : FuncId} {args : Array Value} {R : Ending → Prop} {S' : Ls} (hK : Keeps D X) (h : TwR w0 w P c d S D X)
    (hc : ∀ (D' : Nat → Prop) (X' : World → Prop), Keeps D' X' → LvR w0 w P.p2 P.qz P.iz c 1 S.Z D' X' → Calls Q f args w fun e w' => R e ∧ LvR w0 w' P.p2 P.qz P.iz c 1 S' D' X') :
    Calls Q f args w fun e w' => R e ∧ TwR w0 w' P c d ⟨S.M, S.ox, S.jx, S.oy, S.jy, S'⟩ D X := by
  obtain ⟨hp, ho, hn⟩ := h
  have h1 := (hp.swap.less (E := fun k => (D k ∨ ((k = P.qx ∨ k = P.ix) ∨ (k = P.qy ∨ k = P.iy))) ∨ (k = P.qz ∨ k = P.iz)) (Y := fun w => (X w ∧ (LvX P.p P.qx P.ix c 0 S.ox S.jx w ∧ LvX P.p P.qy P.iy d 3 S.oy S.jy w)) ∧ LvX P.p2 P.qz P.iz c 1 S.Z.over S.Z.ids w) (fun k hk => by
    rcases hk with (hk | hk) | hk
    · exact .inl hk
    · exact .inr (.inl hk)
    · exact .inr (.inr hk)) (fun hx => ⟨⟨hx.1, hx.2.1⟩, hx.2.2⟩))
  refine (PairX.lv (o := S.Z.over) (i := S.Z.ids) (keeps_and hK (keeps_and (keeps_lv _ _ _ _ _ _ _) (keeps_lv _ _ _ _ _ _ _))) h1 (fun k hk => ?_) hn.z ⟨hn.ge.2.2.2.2.1, hn.ge.2.2.2.2.2⟩ hc).mono fun e w' ⟨he, h2⟩ => ⟨he, ?_, ho, hn⟩
  · rcases hk with hk | (rfl | rfl) | (rfl | rfl)
    · exact ⟨fun e => ho k hk (by rw [e]; exact .inr (.inl rfl)), fun e => ho k hk (by rw [e]; exact .inr (.inr rfl))⟩
    · exact ⟨hn.xz.1, hn.xz.2.1⟩
    · exact ⟨hn.xz.2.2.1, hn.xz.2.2.2⟩
    · exact ⟨hn.yz.1, hn.yz.2.1⟩
    · exact ⟨hn.yz.2.2.1, hn.yz.2.2.2⟩
  · refine h2.swap.less (fun k hk => ?_) (fun hx => ⟨hx.1.1, hx.1.2, hx.2⟩)
    rcases hk with hk | hk | hk
    · exact .inl (.inl hk)
    · exact .inl (.inr hk)
    · exact .inr hk
/-- three levels, as they are made -/
theorem tw_made {w5 w11 w12 : World} {p qx ix qy iy p2 qz iz : Nat} {c g : Lc} {M : Mm} {Z : Ls} (hx : qx ≠ ix) (hxg : w5.heap.size ≤ qx ∧ w5.heap.size ≤ ix)
    (hy : LvR w5 w11 p qy iy g 3 ⟨M, false, []⟩ (fun k => False ∨ (k = qx ∨ k = ix)) (fun w => True ∧ LvX p qx ix c 0 false [] w))
    (hz : LvR w11 w12 p2 qz iz c 1 Z (fun _ => False) (fun _ => True)) : TwR w5 w12 ⟨p, p2, qx, ix, qy, iy, qz, iz⟩ c g ⟨M, false, [], false, [], Z⟩ (fun _ => False) (fun _ => True) := by
  have hK := keeps_and (keeps_and keeps_true (keeps_lv p qx ix c 0 false [])) (keeps_lv p qy iy g 3 false [])
  have hzg := hz.ge
  have hp := PairX.join hK hy.one hz.one (fun k hk => by
    rcases hk with hk | rfl | rfl
    · exact hk.elim
    · exact hzg.1
    · exact hzg.2)
  have hlt := hy.lt
  have l1 := hlt.1 qx (.inr (.inl rfl))
  have l2 := hlt.1 ix (.inr (.inr rfl))
  have o1 := hy.off qx (.inr (.inl rfl))
  have o2 := hy.off ix (.inr (.inr rfl))
  have s1 := hy.one.old.size
  have g1 := hy.ge
  refine ⟨hp.less (fun k hk => ?_) (fun hx => ⟨trivial, ⟨hx.1.1.2, hx.1.2⟩, hx.2.2⟩), fun k hk => hk.elim, ⟨hx, hy.ne, hz.ne, ⟨o1.1, o1.2, o2.1, o2.2⟩, ⟨?_, ?_, ?_, ?_⟩, ⟨?_, ?_, ?_, ?_⟩, ⟨hxg.1, hxg.2, g1.1, g1.2, ?_, ?_⟩⟩⟩
  · rcases hk with hk | (hk | hk) | hk
    · exact hk.elim
    · exact .inl (.inl (.inr hk))
    · exact .inl (.inr hk)
    · exact .inr (.inr hk)
  all_goals
    simp only
    omega
end Go.Proofs.Ytiimdgdimjjboaa
