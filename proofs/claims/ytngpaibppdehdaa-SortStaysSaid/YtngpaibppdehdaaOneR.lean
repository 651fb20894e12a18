/-
  The document's memory, and whatever lies beside it; two memories as one beside the other.
-/
import Derived.Test.YtngpaibppdehdaaOne
namespace Go.Proofs.Ytngpaibppdehdaa
open Go Go.RowKit Go.Sg
variable {T T' : Nat} {w0 w w' : World} {p q : Nat} {M N : Mm} {D : Nat → Prop} {X : World → Prop}
theorem one_rread (hK : Keeps D X) (r a : Int) (h : OneX 60 w0 w p M D X) (hN : M.evs.length ≤ 1099511627776) :
    Calls Try.prog 42 #[.pointer (some ⟨p, 0, none⟩), .int .i64 r, .int .i64 a] w fun e w' => e = .returned (.agg (cw (M.read r a))) ∧ OneX 60 w0 w' p (M.look r a false) D X := by
  obtain ⟨F, h1, h2, h3, h4, h5, h6⟩ := h
  exact (ref3Read_any r a w h1 hN).mono fun e w' ⟨he, hp⟩ => ⟨he, OneX.post hK h1 h2 h3 h4 h5 h6 hp⟩
theorem one_rwrite (hK : Keeps D X) (r a : Int) (c : List Int) (hc : c.length = 12) (hw : ∀ x ∈ c, Word x) (h : OneX 60 w0 w p M D X) (hN : M.evs.length ≤ 1099511627776) :
    Calls Try.prog 41 #[.pointer (some ⟨p, 0, none⟩), .int .i64 r, .int .i64 a, .agg (cw c)] w fun e w' => e = .returned (.tuple #[]) ∧ OneX 60 w0 w' p (M.write r a c) D X := by
  obtain ⟨F, h1, h2, h3, h4, h5, h6⟩ := h
  exact (ref3Write_any r a c hc hw w h1 hN).mono fun e w' ⟨he, hp⟩ => ⟨he, OneX.post hK h1 h2 h3 h4 h5 h6 hp⟩
theorem one_rsize (r : Int) (h : OneX 60 w0 w p M D X) :
    Calls Try.prog 44 #[.pointer (some ⟨p, 0, none⟩), .int .i64 r] w fun e w' => e = .returned (.int .i64 (M.size r)) ∧ w' = w := by
  obtain ⟨F, h1, _⟩ := h
  exact ref3Size_any r w h1
/-- another memory lies beside it -/
def MemX (T q : Nat) (N : Mm) (G : Nat → Prop) : World → Prop := fun w => MemRep w T q N G
theorem keeps_mem (T q : Nat) (N : Mm) (G : Nat → Prop) : Keeps G (MemX T q N G) := fun _ _ hs hb hx => hx.keep hs hb
/-- two memories, and what lies beside both -/
def PairX (T T' : Nat) (w0 w : World) (p q : Nat) (M N : Mm) (D : Nat → Prop) (X : World → Prop) : Prop :=
  ∃ G : Nat → Prop, OneX T w0 w p M (fun k => D k ∨ G k) (fun w => X w ∧ MemX T' q N G w) ∧ (∀ k, G k → w0.heap.size ≤ k) ∧ (∀ k, D k → ¬ G k)
theorem PairX.x (h : PairX T T' w0 w p q M N D X) : X w := by
  obtain ⟨G, h1, _⟩ := h
  exact h1.x.1
theorem PairX.old (h : PairX T T' w0 w p q M N D X) : Below w0.heap.size w0 w := by
  obtain ⟨G, h1, _⟩ := h
  exact h1.old
theorem PairX.ok (h : PairX T T' w0 w p q M N D X) : M.ok ∧ N.ok := by
  obtain ⟨G, h1, _⟩ := h
  exact ⟨h1.ok, h1.x.2.ok⟩
theorem PairX.below (hK : Keeps D X) (h : PairX T T' w0 w p q M N D X) (hb : Below w.heap.size w w') : PairX T T' w0 w' p q M N D X := by
  obtain ⟨G, h1, h2, h3⟩ := h
  exact ⟨G, h1.below (keeps_and hK (keeps_mem _ _ _ _)) hb, h2, h3⟩
theorem PairX.drew (hK : Keeps D X) (h : PairX T T' w0 w p q M N D X) : PairX T T' w0 w.drew p q M N D X := h.below hK ((Below.refl _ _).drew)
theorem PairX.swap (h : PairX T T' w0 w p q M N D X) : PairX T' T w0 w q p N M D X := by
  obtain ⟨G, ⟨F, h1, h2, h3, h4, h5, h6⟩, hG, hD⟩ := h
  exact ⟨F, ⟨G, h6.2, hG, h3, fun k hk => hk.elim (hD k) (fun hf hg => h4 k (.inr hg) hf), fun k hk => hk.elim (fun h => h5 k (.inl h)) (h1.lt k), h6.1, h1⟩, h2, fun k hk => h4 k (.inl hk)⟩
theorem PairX.of_two (h : TwoR T T' w0 w p q M N) : PairX T T' w0 w p q M N (fun _ => False) (fun _ => True) := by
  obtain ⟨F, G, h1, h2, h3, h4, h5, h6⟩ := h
  exact ⟨G, ⟨F, h1, h3, h6, fun k hk hf => hk.elim id (h5 k hf), fun k hk => hk.elim False.elim (h2.lt k), trivial, h2⟩, h4, fun _ h => h.elim⟩
/-- the second one is forgotten -/
theorem PairX.left (h : PairX T T' w0 w p q M N D X) : OneX T w0 w p M D X := by
  obtain ⟨G, h1, _⟩ := h
  exact h1.less (fun k hk => .inl hk) (fun h => h.1)
/-- what a call tells of one memory tells of both -/
theorem PairX.call {P : Program} {f : FuncId} {args : Array Value} {R : Ending → Prop} {M' : Mm} (hK : Keeps D X) (h : PairX T T' w0 w p q M N D X)
    (hc : ∀ (D' : Nat → Prop) (X' : World → Prop), Keeps D' X' → OneX T w0 w p M D' X' → Calls P f args w fun e w' => R e ∧ OneX T w0 w' p M' D' X') :
    Calls P f args w fun e w' => R e ∧ PairX T T' w0 w' p q M' N D X := by
  obtain ⟨G, h1, h2, h3⟩ := h
  exact (hc _ _ (keeps_and hK (keeps_mem _ _ _ _)) h1).mono fun e w' ⟨he, hx⟩ => ⟨he, G, hx, h2, h3⟩
theorem PairX.call2 {P : Program} {f : FuncId} {args : Array Value} {R : Ending → Prop} {N' : Mm} (hK : Keeps D X) (h : PairX T T' w0 w p q M N D X)
    (hc : ∀ (D' : Nat → Prop) (X' : World → Prop), Keeps D' X' → OneX T' w0 w q N D' X' → Calls P f args w fun e w' => R e ∧ OneX T' w0 w' q N' D' X') :
    Calls P f args w fun e w' => R e ∧ PairX T T' w0 w' p q M N' D X :=
  (h.swap.call hK hc).mono fun e w' ⟨he, hx⟩ => ⟨he, hx.swap⟩
/-- a new block lies beside both -/
theorem PairX.box (hK : Keeps D X) (h : PairX T T' w0 w p q M N D X) (cs : Array Value) (t : TypeId) : PairX T T' w0 (w.alloc (.cells cs t)) p q M N (fun i => D i ∨ i = w.heap.size) (fun w' => X w' ∧ Blk w' w.heap.size cs t) := by
  obtain ⟨G, h1, h2, h3⟩ := h
  have hb := h1.box (keeps_and hK (keeps_mem _ _ _ _)) cs t
  refine ⟨G, hb.less (fun k hk => ?_) (fun h => ⟨⟨h.1.1, h.2⟩, h.1.2⟩), h2, fun k hk => hk.elim (h3 k) (fun e hg => ?_)⟩
  · rcases hk with (hk | hk) | hk
    · exact .inl (.inl hk)
    · exact .inr hk
    · exact .inl (.inr hk)
  · subst e
    exact Nat.lt_irrefl _ (h1.x.2.lt _ hg)
theorem PairX.ret (hK : Keeps D X) {E : Nat → Prop} {Y : World → Prop} (h : PairX T T' w0 w p q M N D X) (hb : Below w.heap.size w w') (hE : ∀ k, E k → w.heap.size ≤ k ∧ k < w'.heap.size) (hy : Y w') : PairX T T' w0 w' p q M N (fun i => D i ∨ E i) (fun w => X w ∧ Y w) := by
  obtain ⟨G, h1, h2, h3⟩ := h
  have hx := h1.ret (keeps_and hK (keeps_mem _ _ _ _)) hb hE hy
  refine ⟨G, hx.less (fun k hk => ?_) (fun h => ⟨⟨h.1.1, h.2⟩, h.1.2⟩), h2, fun k hk => hk.elim (h3 k) (fun e hg => ?_)⟩
  · rcases hk with (hk | hk) | hk
    · exact .inl (.inl hk)
    · exact .inr hk
    · exact .inl (.inr hk)
  · have h1' := h1.x.2.lt k hg
    have h2' := (hE k e).1
    omega
theorem PairX.less {E : Nat → Prop} {Y : World → Prop} (h : PairX T T' w0 w p q M N D X) (hE : ∀ k, E k → D k) (hy : X w → Y w) : PairX T T' w0 w p q M N E Y := by
  obtain ⟨G, h1, h2, h3⟩ := h
  exact ⟨G, h1.less (fun k hk => hk.elim (fun h => .inl (hE k h)) .inr) (fun h => ⟨hy h.1, h.2⟩), h2, fun k hk => h3 k (hE k hk)⟩
/-- what lies beside both turns, and nothing else -/
theorem PairX.turn {E : Nat → Prop} {Y : World → Prop} (h : PairX T T' w0 w p q M N D X) (hE : ∀ k, E k → D k) (hf : MFrame (fun k => D k ∧ w0.heap.size ≤ k) w w') (hy : Y w') : PairX T T' w0 w' p q M N E Y := by
  obtain ⟨G, h1, h2, h3⟩ := h
  refine ⟨G, h1.turn (fun k hk => hk.elim (fun h => .inl (hE k h)) .inr) ⟨hf.os, hf.tape, hf.output, hf.size, fun k hk hn => hf.block k hk (fun hd => hn ⟨.inl hd.1, hd.2⟩)⟩ ⟨hy, h1.x.2.frame hf (fun k hg hd => h3 k hd.1 hg)⟩, h2, fun k hk => h3 k (hE k hk)⟩
end Go.Proofs.Ytngpaibppdehdaa
