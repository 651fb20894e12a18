/-
  A memory, and whatever lies beside it: what the calls do to it.
-/
import Derived.Test.YtngpaibppdehdaaTwo
import Derived.Test.YtngpaibppdehdaaMemFree
namespace Go.Proofs.Ytngpaibppdehdaa
open Go Go.RowKit Go.Sg
/-- X hangs on the blocks D alone. -/
def Keeps (D : Nat → Prop) (X : World → Prop) : Prop := ∀ w w' : World, w.heap.size ≤ w'.heap.size → (∀ k, D k → w'.heap[k]? = w.heap[k]?) → X w → X w'
/-- p is a memory that reads as M, newer than w0; beside it, in blocks D, lies what X tells. -/
def OneX (T : Nat) (w0 w : World) (p : Nat) (M : Mm) (D : Nat → Prop) (X : World → Prop) : Prop :=
  ∃ F : Nat → Prop, MemRep w T p M F ∧ (∀ k, F k → w0.heap.size ≤ k) ∧ Below w0.heap.size w0 w ∧ (∀ k, D k → ¬ F k) ∧ (∀ k, D k → k < w.heap.size) ∧ X w
def OneR (T : Nat) (w0 w : World) (p : Nat) (M : Mm) : Prop := OneX T w0 w p M (fun _ => False) (fun _ => True)
theorem keeps_true : Keeps (fun _ => False) (fun _ => True) := fun _ _ _ _ _ => trivial
theorem keeps_and {D E : Nat → Prop} {X Y : World → Prop} (h : Keeps D X) (k : Keeps E Y) : Keeps (fun i => D i ∨ E i) (fun w => X w ∧ Y w) :=
  fun w w' hs hb ⟨hx, hy⟩ => ⟨h w w' hs (fun i hi => hb i (.inl hi)) hx, k w w' hs (fun i hi => hb i (.inr hi)) hy⟩
theorem keeps_blk (b : Nat) (cs : Array Value) (t : TypeId) : Keeps (fun k => k = b) (fun w => Blk w b cs t) := fun _ _ _ hb hx => Blk_keep hx (hb b rfl)
theorem cell_of_heap {w w' : World} {b o : Nat} (h : w'.heap[b]? = w.heap[b]?) : w'.cell? ⟨b, o, none⟩ = w.cell? ⟨b, o, none⟩ := by
  exact World.cell?_of_block (w := w) h
/-- the blocks of a slice of looks -/
def OwnE (v : Value) (es : List Ev) : Nat → Prop := fun k => v.ownBlock = some k ∧ es ≠ []
theorem slE_own_lt {w : World} {v : Value} {es : List Ev} (h : SlE w v es) : ∀ k, OwnE v es k → k < w.heap.size := by
  rintro k ⟨h1, h2⟩
  obtain ⟨a, cap, rfl, _, _, h3⟩ := h
  obtain ⟨b, off, rfl, hlt, _⟩ := h3 h2
  cases h1
  exact hlt
theorem keeps_slE (v : Value) (es : List Ev) : Keeps (OwnE v es) (fun w => SlE w v es) := by
  rintro w w' hs hb ⟨a, cap, rfl, h1, h2, h3⟩
  refine ⟨a, cap, rfl, h1, h2, fun hn => ?_⟩
  obtain ⟨b, off, rfl, hlt, hr⟩ := h3 hn
  have hk := hb b ⟨rfl, hn⟩
  exact ⟨b, off, rfl, Nat.lt_of_lt_of_le hlt hs, fun j u hu => (cell_of_heap hk).trans (hr j u hu)⟩
variable {T : Nat} {w0 w w' : World} {p : Nat} {M : Mm} {D : Nat → Prop} {X : World → Prop}
theorem OneX.x (h : OneX T w0 w p M D X) : X w := by
  obtain ⟨F, h1, h2, h3, h4, h5, h6⟩ := h
  exact h6
theorem OneX.old (h : OneX T w0 w p M D X) : Below w0.heap.size w0 w := by
  obtain ⟨F, h1, h2, h3, h4, h5, h6⟩ := h
  exact h3
theorem OneX.ok (h : OneX T w0 w p M D X) : M.ok := by
  obtain ⟨F, h1, _⟩ := h
  exact h1.ok
theorem OneX.below (hK : Keeps D X) (h : OneX T w0 w p M D X) (hb : Below w.heap.size w w') : OneX T w0 w' p M D X := by
  obtain ⟨F, h1, h2, h3, h4, h5, h6⟩ := h
  exact ⟨F, h1.below hb, h2, h3.trans (hb.mono h3.size), h4, fun k hk => Nat.lt_of_lt_of_le (h5 k hk) hb.size, hK w w' hb.size (fun k hk => hb.block k (h5 k hk)) h6⟩
theorem OneX.drew (hK : Keeps D X) (h : OneX T w0 w p M D X) : OneX T w0 w.drew p M D X := h.below hK ((Below.refl _ _).drew)
theorem OneX.one (h : OneX T w0 w p M D X) : OneR T w0 w p M := by
  obtain ⟨F, h1, h2, h3, h4, h5, h6⟩ := h
  exact ⟨F, h1, h2, h3, fun _ h => h.elim, fun _ h => h.elim, trivial⟩
/-- more lies beside it, in blocks that are no part of it -/
theorem OneX.more {E : Nat → Prop} {Y : World → Prop} (h : OneX T w0 w p M D X) (hE : ∀ F, MemRep w T p M F → ∀ k, E k → ¬ F k ∧ k < w.heap.size) (hy : Y w) : OneX T w0 w p M (fun i => D i ∨ E i) (fun w => X w ∧ Y w) := by
  obtain ⟨F, h1, h2, h3, h4, h5, h6⟩ := h
  exact ⟨F, h1, h2, h3, fun k hk => hk.elim (h4 k) (fun h => (hE F h1 k h).1), fun k hk => hk.elim (h5 k) (fun h => (hE F h1 k h).2), h6, hy⟩
/-- a new block lies beside it -/
theorem OneX.box (hK : Keeps D X) (h : OneX T w0 w p M D X) (cs : Array Value) (t : TypeId) : OneX T w0 (w.alloc (.cells cs t)) p M (fun i => D i ∨ i = w.heap.size) (fun w' => X w' ∧ Blk w' w.heap.size cs t) := by
  obtain ⟨F, h1, h2, h3, h4, h5, h6⟩ := h
  have hb : Below w.heap.size w (w.alloc (.cells cs t)) := (Below.refl _ _).alloc (Nat.le_refl _) _
  refine ⟨F, h1.below hb, h2, h3.trans (hb.mono h3.size), fun k hk => hk.elim (h4 k) (fun e hF => ?_), fun k hk => hk.elim (fun h => Nat.lt_of_lt_of_le (h5 k h) hb.size) (fun e => by subst e; simp), hK w _ hb.size (fun k hk => hb.block k (h5 k hk)) h6, Blk.new w cs t⟩
  subst e
  exact Nat.lt_irrefl _ (h1.lt _ hF)
/-- what new memory a call has made lies beside it -/
theorem OneX.ret (hK : Keeps D X) {E : Nat → Prop} {Y : World → Prop} (h : OneX T w0 w p M D X) (hb : Below w.heap.size w w') (hE : ∀ k, E k → w.heap.size ≤ k ∧ k < w'.heap.size) (hy : Y w') : OneX T w0 w' p M (fun i => D i ∨ E i) (fun w => X w ∧ Y w) := by
  obtain ⟨F, h1, h2, h3, h4, h5, h6⟩ := h
  exact ⟨F, h1.below hb, h2, h3.trans (hb.mono h3.size), fun k hk => hk.elim (h4 k) (fun h hF => by have := h1.lt k hF; have := (hE k h).1; omega), fun k hk => hk.elim (fun h => Nat.lt_of_lt_of_le (h5 k h) hb.size) (fun h => (hE k h).2), hK w w' hb.size (fun k hk => hb.block k (h5 k hk)) h6, hy⟩
/-- what lies beside it is forgotten -/
theorem OneX.less {E : Nat → Prop} {Y : World → Prop} (h : OneX T w0 w p M D X) (hE : ∀ k, E k → D k) (hy : X w → Y w) : OneX T w0 w p M E Y := by
  obtain ⟨F, h1, h2, h3, h4, h5, h6⟩ := h
  exact ⟨F, h1, h2, h3, fun k hk => h4 k (hE k hk), fun k hk => h5 k (hE k hk), hy h6⟩
/-- what lies beside it turns, and nothing else -/
theorem OneX.turn {E : Nat → Prop} {Y : World → Prop} (h : OneX T w0 w p M D X) (hE : ∀ k, E k → D k) (hf : MFrame (fun k => D k ∧ w0.heap.size ≤ k) w w') (hy : Y w') : OneX T w0 w' p M E Y := by
  obtain ⟨F, h1, h2, h3, h4, h5, h6⟩ := h
  exact ⟨F, h1.frame hf (fun k hk hd => h4 k hd.1 hk), h2, h3.trans (hf.below (fun k hk => hk.2) h3.size), fun k hk => h4 k (hE k hk), fun k hk => Nat.lt_of_lt_of_le (h5 k (hE k hk)) hf.size, hy⟩
theorem OneX.post {F : Nat → Prop} {M' : Mm} (hK : Keeps D X) (h1 : MemRep w T p M F) (h2 : ∀ k, F k → w0.heap.size ≤ k) (h3 : Below w0.heap.size w0 w) (h4 : ∀ k, D k → ¬ F k) (h5 : ∀ k, D k → k < w.heap.size) (h6 : X w) (hp : MemPost T p M' F w w') : OneX T w0 w' p M' D X :=
  ⟨Grow F w w', hp.1, Grow.ge h2 h3.size, h3.trans (hp.2.below h2 h3.size), fun k hk hg => by
    rcases hg with hg | hg
    · exact h4 k hk hg
    · have := h5 k hk; omega, fun k hk => Nat.lt_of_lt_of_le (h5 k hk) hp.2.size, hK w w' hp.2.size (fun k hk => hp.2.block k (h5 k hk) (h4 k hk)) h6⟩

theorem one_read (hK : Keeps D X) (r a : Int) (h : OneX 108 w0 w p M D X) (hN : M.evs.length ≤ 1099511627776) :
    Calls Try.prog 35 #[.pointer (some ⟨p, 0, none⟩), .int .i64 r, .int .i64 a] w fun e w' => e = .returned (.agg (cw (M.read r a))) ∧ OneX 108 w0 w' p (M.look r a false) D X := by
  obtain ⟨F, h1, h2, h3, h4, h5, h6⟩ := h
  exact (memRead_any r a w h1 hN).mono fun e w' ⟨he, hp⟩ => ⟨he, OneX.post hK h1 h2 h3 h4 h5 h6 hp⟩
theorem one_write (hK : Keeps D X) (r a : Int) (c : List Int) (hc : c.length = 12) (hw : ∀ x ∈ c, Word x) (h : OneX 108 w0 w p M D X) (hN : M.evs.length ≤ 1099511627776) :
    Calls Try.prog 33 #[.pointer (some ⟨p, 0, none⟩), .int .i64 r, .int .i64 a, .agg (cw c)] w fun e w' => e = .returned (.tuple #[]) ∧ OneX 108 w0 w' p (M.write r a c) D X := by
  obtain ⟨F, h1, h2, h3, h4, h5, h6⟩ := h
  exact (memWrite_any r a c hc hw w h1 hN).mono fun e w' ⟨he, hp⟩ => ⟨he, OneX.post hK h1 h2 h3 h4 h5 h6 hp⟩
theorem one_size (r : Int) (h : OneX 108 w0 w p M D X) :
    Calls Try.prog 39 #[.pointer (some ⟨p, 0, none⟩), .int .i64 r] w fun e w' => e = .returned (.int .i64 (M.size r)) ∧ w' = w := by
  obtain ⟨F, h1, _⟩ := h
  exact memSize_any r w h1
theorem one_many (h : OneX 108 w0 w p M D X) :
    Calls Try.prog 43 #[.pointer (some ⟨p, 0, none⟩)] w fun e w' => e = .returned (.int .i64 M.evs.length) ∧ w' = w := by
  obtain ⟨F, h1, _⟩ := h
  exact memMany_any w h1
theorem one_fault (h : OneX 108 w0 w p M D X) :
    Calls Try.prog 38 #[.pointer (some ⟨p, 0, none⟩)] w fun e w' => e = .returned (.bool M.fault) ∧ w' = w := by
  obtain ⟨F, h1, _⟩ := h
  exact memFault_any w h1
/-- the looks are told in a new slice -/
theorem one_trace (hK : Keeps D X) (h : OneX 108 w0 w p M D X) (hN : M.evs.length ≤ 1099511627776) :
    Calls Try.prog 37 #[.pointer (some ⟨p, 0, none⟩)] w fun e w' => ∃ v, e = .returned v ∧ OneX 108 w0 w' p M (fun i => D i ∨ OwnE v M.evs i) (fun w => X w ∧ SlE w v M.evs) ∧ Below w.heap.size w w' ∧ ∀ k, v.ownBlock = some k → w.heap.size ≤ k ∧ ∀ o, w'.frozen? ⟨k, o, none⟩ = false := by
  have h0 := h
  obtain ⟨F, h1, _⟩ := h
  exact (memTrace_free w h1 hN).mono fun e w' ⟨v, he, hs, hb, ho⟩ => ⟨v, he, h0.ret hK hb (fun k hk => ⟨(ho k hk.1).1, slE_own_lt hs k hk⟩) hs, hb, ho⟩
theorem one_since (hK : Keeps D X) (n : Int) (h : OneX 108 w0 w p M D X) (hN : M.evs.length ≤ 1099511627776) (k : Nat) (hk : max 0 (min n (M.evs.length : Int)) = k) :
    Calls Try.prog 45 #[.pointer (some ⟨p, 0, none⟩), .int .i64 n] w fun e w' => ∃ v, e = .returned v ∧ OneX 108 w0 w' p M (fun i => D i ∨ OwnE v (M.evs.drop k) i) (fun w => X w ∧ SlE w v (M.evs.drop k)) ∧ Below w.heap.size w w' ∧ ∀ k, v.ownBlock = some k → w.heap.size ≤ k ∧ ∀ o, w'.frozen? ⟨k, o, none⟩ = false := by
  have h0 := h
  obtain ⟨F, h1, _⟩ := h
  exact (memSince_free n w h1 hN k hk).mono fun e w' ⟨v, he, hs, hb, ho⟩ => ⟨v, he, h0.ret hK hb (fun k hk => ⟨(ho k hk.1).1, slE_own_lt hs k hk⟩) hs, hb, ho⟩
end Go.Proofs.Ytngpaibppdehdaa
