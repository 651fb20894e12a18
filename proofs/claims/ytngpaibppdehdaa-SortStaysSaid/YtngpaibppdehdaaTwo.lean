/-
  Two memories of one world, and a block beside them: what the calls do to both.
-/
import Derived.Test.YtngpaibppdehdaaMemPlain
namespace Go.Sg
open Go Go.RowKit
theorem write_evs_le (M : Mm) (r a : Int) (c : List Int) : (M.write r a c).evs.length ≤ M.evs.length + 1 := by
  rw [Mm.write_evs]
  split
  · rw [List.length_append]; simp
  · omega
theorem look_evs_le (M : Mm) (r a : Int) (b : Bool) : (M.look r a b).evs.length ≤ M.evs.length + 1 := by
  rw [Mm.look_evs]
  split
  · rw [List.length_append]; simp
  · omega
end Go.Sg
namespace Go.Proofs.Ytngpaibppdehdaa
open Go Go.RowKit Go.Sg
/-- p and q are two memories that share nothing; both are newer than w0; block b is beside them. -/
def TwoB (Tp Tq : Nat) (w0 w : World) (p q : Nat) (M N : Mm) (b : Nat) (cs : Array Value) (t : TypeId) : Prop :=
  ∃ F G : Nat → Prop, MemRep w Tp p M F ∧ MemRep w Tq q N G ∧ (∀ k, F k → w0.heap.size ≤ k) ∧ (∀ k, G k → w0.heap.size ≤ k) ∧ (∀ k, F k → ¬ G k) ∧ Below w0.heap.size w0 w ∧ Blk w b cs t ∧ ¬ F b ∧ ¬ G b
def TwoR (Tp Tq : Nat) (w0 w : World) (p q : Nat) (M N : Mm) : Prop :=
  ∃ F G : Nat → Prop, MemRep w Tp p M F ∧ MemRep w Tq q N G ∧ (∀ k, F k → w0.heap.size ≤ k) ∧ (∀ k, G k → w0.heap.size ≤ k) ∧ (∀ k, F k → ¬ G k) ∧ Below w0.heap.size w0 w
variable {Tp Tq : Nat} {w0 w w' : World} {p q : Nat} {M N : Mm} {b : Nat} {cs : Array Value} {t : TypeId}
theorem TwoB.two (h : TwoB Tp Tq w0 w p q M N b cs t) : TwoR Tp Tq w0 w p q M N := by
  obtain ⟨F, G, h1, h2, h3, h4, h5, h6, _⟩ := h
  exact ⟨F, G, h1, h2, h3, h4, h5, h6⟩
theorem TwoB.blk (h : TwoB Tp Tq w0 w p q M N b cs t) : Blk w b cs t := by
  obtain ⟨F, G, h1, h2, h3, h4, h5, h6, h7, _⟩ := h
  exact h7
theorem TwoR.ok (h : TwoR Tp Tq w0 w p q M N) : M.ok ∧ N.ok := by
  obtain ⟨F, G, h1, h2, _⟩ := h
  exact ⟨h1.ok, h2.ok⟩
theorem TwoR.old (h : TwoR Tp Tq w0 w p q M N) : Below w0.heap.size w0 w := by
  obtain ⟨F, G, h1, h2, h3, h4, h5, h6⟩ := h
  exact h6
theorem TwoR.below (h : TwoR Tp Tq w0 w p q M N) (hb : Below w.heap.size w w') : TwoR Tp Tq w0 w' p q M N := by
  obtain ⟨F, G, h1, h2, h3, h4, h5, h6⟩ := h
  exact ⟨F, G, h1.below hb, h2.below hb, h3, h4, h5, h6.trans (hb.mono h6.size)⟩
theorem TwoB.below (h : TwoB Tp Tq w0 w p q M N b cs t) (hb : Below w.heap.size w w') : TwoB Tp Tq w0 w' p q M N b cs t := by
  obtain ⟨F, G, h1, h2, h3, h4, h5, h6, h7, h8⟩ := h
  exact ⟨F, G, h1.below hb, h2.below hb, h3, h4, h5, h6.trans (hb.mono h6.size), h7.below hb h7.lt, h8⟩
theorem TwoB.drew (h : TwoB Tp Tq w0 w p q M N b cs t) : TwoB Tp Tq w0 w.drew p q M N b cs t := h.below ((Below.refl _ _).drew)
theorem TwoR.drew (h : TwoR Tp Tq w0 w p q M N) : TwoR Tp Tq w0 w.drew p q M N := h.below ((Below.refl _ _).drew)
theorem TwoR.box (h : TwoR Tp Tq w0 w p q M N) (cs : Array Value) (t : TypeId) : TwoB Tp Tq w0 (w.alloc (.cells cs t)) p q M N w.heap.size cs t := by
  obtain ⟨F, G, h1, h2, h3, h4, h5, h6⟩ := h
  have hb : Below w.heap.size w (w.alloc (.cells cs t)) := (Below.refl _ _).alloc (Nat.le_refl _) _
  exact ⟨F, G, h1.below hb, h2.below hb, h3, h4, h5, h6.trans (hb.mono h6.size), Blk.new w cs t, fun h => Nat.lt_irrefl _ (h1.lt _ h), fun h => Nat.lt_irrefl _ (h2.lt _ h)⟩
theorem TwoB.row (h : TwoB Tp Tq w0 w p q M N b cs t) (hw : w0.heap.size ≤ b) (cs2 : Array Value) : TwoB Tp Tq w0 (w.setRow b cs2) p q M N b cs2 t := by
  obtain ⟨F, G, h1, h2, h3, h4, h5, h6, h7, h8, h9⟩ := h
  have hs : (w.setRow b cs2).heap.size = w.heap.size := by simp [World.setRow]
  refine ⟨F, G, h1.keep (Nat.le_of_eq hs.symm) (fun k hk => setRow_other w b k cs2 (fun e => h8 (e ▸ hk))), h2.keep (Nat.le_of_eq hs.symm) (fun k hk => setRow_other w b k cs2 (fun e => h9 (e ▸ hk))), h3, h4, h5, below_setRow h6 hw cs2, h7.setRow cs2, h8, h9⟩
theorem TwoB.swap (h : TwoB Tp Tq w0 w p q M N b cs t) : TwoB Tq Tp w0 w q p N M b cs t := by
  obtain ⟨F, G, h1, h2, h3, h4, h5, h6, h7, h8, h9⟩ := h
  exact ⟨G, F, h2, h1, h4, h3, fun k hg hf => h5 k hf hg, h6, h7, h9, h8⟩
theorem TwoR.swap (h : TwoR Tp Tq w0 w p q M N) : TwoR Tq Tp w0 w q p N M := by
  obtain ⟨F, G, h1, h2, h3, h4, h5, h6⟩ := h
  exact ⟨G, F, h2, h1, h4, h3, fun k hg hf => h5 k hf hg, h6⟩
/-- what a call does to the first memory leaves the second one -/
theorem TwoB.post {F G : Nat → Prop} {M' : Mm} (h1 : MemRep w Tp p M F) (h2 : MemRep w Tq q N G) (h3 : ∀ k, F k → w0.heap.size ≤ k) (h4 : ∀ k, G k → w0.heap.size ≤ k) (h5 : ∀ k, F k → ¬ G k) (h6 : Below w0.heap.size w0 w)
    (h7 : Blk w b cs t) (h8 : ¬ F b) (h9 : ¬ G b) (hp : MemPost Tp p M' F w w') : TwoB Tp Tq w0 w' p q M' N b cs t :=
  ⟨Grow F w w', G, hp.1, h2.frame hp.2 (fun k hg hf => h5 k hf hg), Grow.ge h3 h6.size, h4, fun k hk hg => by
    rcases hk with hk | hk
    · exact h5 k hk hg
    · have := h2.lt k hg; omega, h6.trans (hp.2.below h3 h6.size), Blk_keep h7 (hp.2.block b h7.lt h8), fun hb => by
    rcases hb with hb | hb
    · exact h8 hb
    · have := h7.lt; omega, h9⟩
theorem TwoR.post {F G : Nat → Prop} {M' : Mm} (h1 : MemRep w Tp p M F) (h2 : MemRep w Tq q N G) (h3 : ∀ k, F k → w0.heap.size ≤ k) (h4 : ∀ k, G k → w0.heap.size ≤ k) (h5 : ∀ k, F k → ¬ G k) (h6 : Below w0.heap.size w0 w)
    (hp : MemPost Tp p M' F w w') : TwoR Tp Tq w0 w' p q M' N :=
  ⟨Grow F w w', G, hp.1, h2.frame hp.2 (fun k hg hf => h5 k hf hg), Grow.ge h3 h6.size, h4, fun k hk hg => by
    rcases hk with hk | hk
    · exact h5 k hk hg
    · have := h2.lt k hg; omega, h6.trans (hp.2.below h3 h6.size)⟩

theorem two_read1 (r a : Int) (h : TwoB 108 Tq w0 w p q M N b cs t) (hN : M.evs.length ≤ 1099511627776) :
    Calls Try.prog 35 #[.pointer (some ⟨p, 0, none⟩), .int .i64 r, .int .i64 a] w fun e w' => e = .returned (.agg (cw (M.read r a))) ∧ TwoB 108 Tq w0 w' p q (M.look r a false) N b cs t := by
  obtain ⟨F, G, h1, h2, h3, h4, h5, h6, h7, h8, h9⟩ := h
  exact (memRead_any r a w h1 hN).mono fun e w' ⟨he, hp⟩ => ⟨he, TwoB.post h1 h2 h3 h4 h5 h6 h7 h8 h9 hp⟩
theorem two_read2 (r a : Int) (h : TwoB Tp 108 w0 w p q M N b cs t) (hN : N.evs.length ≤ 1099511627776) :
    Calls Try.prog 35 #[.pointer (some ⟨q, 0, none⟩), .int .i64 r, .int .i64 a] w fun e w' => e = .returned (.agg (cw (N.read r a))) ∧ TwoB Tp 108 w0 w' p q M (N.look r a false) b cs t :=
  (two_read1 r a h.swap hN).mono fun e w' ⟨he, hp⟩ => ⟨he, hp.swap⟩
theorem two_write1 (r a : Int) (c : List Int) (hc : c.length = 12) (hw : ∀ x ∈ c, Word x) (h : TwoB 108 Tq w0 w p q M N b cs t) (hN : M.evs.length ≤ 1099511627776) :
    Calls Try.prog 33 #[.pointer (some ⟨p, 0, none⟩), .int .i64 r, .int .i64 a, .agg (cw c)] w fun e w' => e = .returned (.tuple #[]) ∧ TwoB 108 Tq w0 w' p q (M.write r a c) N b cs t := by
  obtain ⟨F, G, h1, h2, h3, h4, h5, h6, h7, h8, h9⟩ := h
  exact (memWrite_any r a c hc hw w h1 hN).mono fun e w' ⟨he, hp⟩ => ⟨he, TwoB.post h1 h2 h3 h4 h5 h6 h7 h8 h9 hp⟩
theorem two_write2 (r a : Int) (c : List Int) (hc : c.length = 12) (hw : ∀ x ∈ c, Word x) (h : TwoB Tp 108 w0 w p q M N b cs t) (hN : N.evs.length ≤ 1099511627776) :
    Calls Try.prog 33 #[.pointer (some ⟨q, 0, none⟩), .int .i64 r, .int .i64 a, .agg (cw c)] w fun e w' => e = .returned (.tuple #[]) ∧ TwoB Tp 108 w0 w' p q M (N.write r a c) b cs t :=
  (two_write1 r a c hc hw h.swap hN).mono fun e w' ⟨he, hp⟩ => ⟨he, hp.swap⟩
theorem two_rread2 (r a : Int) (h : TwoB Tp 60 w0 w p q M N b cs t) (hN : N.evs.length ≤ 1099511627776) :
    Calls Try.prog 42 #[.pointer (some ⟨q, 0, none⟩), .int .i64 r, .int .i64 a] w fun e w' => e = .returned (.agg (cw (N.read r a))) ∧ TwoB Tp 60 w0 w' p q M (N.look r a false) b cs t := by
  obtain ⟨F, G, h1, h2, h3, h4, h5, h6, h7, h8, h9⟩ := h.swap
  exact (ref3Read_any r a w h1 hN).mono fun e w' ⟨he, hp⟩ => ⟨he, (TwoB.post h1 h2 h3 h4 h5 h6 h7 h8 h9 hp).swap⟩
theorem two_rwrite2 (r a : Int) (c : List Int) (hc : c.length = 12) (hw : ∀ x ∈ c, Word x) (h : TwoB Tp 60 w0 w p q M N b cs t) (hN : N.evs.length ≤ 1099511627776) :
    Calls Try.prog 41 #[.pointer (some ⟨q, 0, none⟩), .int .i64 r, .int .i64 a, .agg (cw c)] w fun e w' => e = .returned (.tuple #[]) ∧ TwoB Tp 60 w0 w' p q M (N.write r a c) b cs t := by
  obtain ⟨F, G, h1, h2, h3, h4, h5, h6, h7, h8, h9⟩ := h.swap
  exact (ref3Write_any r a c hc hw w h1 hN).mono fun e w' ⟨he, hp⟩ => ⟨he, (TwoB.post h1 h2 h3 h4 h5 h6 h7 h8 h9 hp).swap⟩
theorem lk_at {w : World} {b o : Nat} {l : Lk} (h : w.rangeAt b o (lkV l)) :
    w.cell? ⟨b, o, none⟩ = some (.int .i64 l.1) ∧ w.cell? ⟨b, o + 1, none⟩ = some (.int .i64 l.2.1) ∧ w.cell? ⟨b, o + 2, none⟩ = some (.int .u64 l.2.2.1) ∧ w.cell? ⟨b, o + 3, none⟩ = some (.bool l.2.2.2) :=
  ⟨h 0 _ rfl, h 1 _ rfl, h 2 _ rfl, h 3 _ rfl⟩
/-- both memories are made of the same sizes -/
theorem two_new {w1 w2 w3 : World} {F G : Nat → Prop} (hw : Below w0.heap.size w0 w1) (h1 : MemRep w2 Tp p M F) (hF : ∀ k, F k → w1.heap.size ≤ k) (hb : Below w1.heap.size w1 w2)
    (h2 : MemRep w3 Tq q N G) (hG : ∀ k, G k → w2.heap.size ≤ k) (hb2 : Below w2.heap.size w2 w3) : TwoR Tp Tq w0 w3 p q M N :=
  ⟨F, G, h1.below hb2, h2, fun k hk => Nat.le_trans hw.size (hF k hk), fun k hk => Nat.le_trans hw.size (Nat.le_trans hb.size (hG k hk)), fun k hk hg => by have := h1.lt k hk; have := hG k hg; omega,
    (hw.trans (hb.mono hw.size)).trans (hb2.mono (Nat.le_trans hw.size hb.size))⟩
end Go.Proofs.Ytngpaibppdehdaa
