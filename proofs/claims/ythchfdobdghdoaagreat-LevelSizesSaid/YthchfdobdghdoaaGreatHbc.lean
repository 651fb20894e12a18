/-
  Joined texts: Look, MemRun, MemPlain, ScanL, Two, One, OneR.
-/
import Derived.Test.YthchfdobdghdoaaGreatHaz
import Derived.Test.YthchfdobdghdoaaGreatHam
import Derived.Deep.Slices
import Derived.Deep.Fields
import Derived.ChangeSame
import Derived.Test.YthchfdobdghdoaaGreatHau
set_option linter.unusedVariables false
set_option linter.unusedSimpArgs false
set_option linter.unusedSectionVars false
set_option linter.unnecessarySimpa false
section

/-
  An argument that is a slice of looks that are to be made; one by value.
-/
namespace Go.Sg
open Go Go.RowKit
/-- The region, the place, what is written, is it? -/
abbrev Lk := Int × Int × Int × Bool
def lkV (l : Lk) : List Value := [.int .i64 l.1, .int .i64 l.2.1, .int .u64 l.2.2.1, .bool l.2.2.2]
def lkOk (l : Lk) : Prop := Num l.1 ∧ Num l.2.1 ∧ Word l.2.2.1
/-- The slice v reads as the looks ls. -/
def SlL (w : World) (v : Value) (ls : List Lk) : Prop :=
  ∃ a cap, v = .slice a ls.length cap ∧ ls.length ≤ cap ∧ cap ≤ maxLen ∧ (∀ l ∈ ls, lkOk l) ∧
    (ls ≠ [] → ∃ b off, a = some ⟨b, off, none⟩ ∧ b < w.heap.size ∧ ∀ i (h : i < ls.length), w.rangeAt b (off + i * 4) (lkV ls[i]))
theorem SlL.below {w w' : World} {v : Value} {ls : List Lk} (h : SlL w v ls) (hb : Below w.heap.size w w') : SlL w' v ls := by
  obtain ⟨a, cap, rfl, h1, h2, h3, h4⟩ := h
  refine ⟨a, cap, rfl, h1, h2, h3, fun hn => ?_⟩
  obtain ⟨b, off, rfl, hlt, hr⟩ := h4 hn
  exact ⟨b, off, rfl, Nat.lt_of_lt_of_le hlt hb.size, fun i hi j u hu => (hb.cell (p := ⟨b, off + i * 4 + j, none⟩) hlt).trans (hr i hi j u hu)⟩
end Go.Sg
namespace Go.Proofs.YthchfdobdghdoaaGreat
open Go.ChangeShapes Go.WideShapes Go.ChangeAt Go.RowKit Go.Sg

end Go.Proofs.YthchfdobdghdoaaGreat
end
section

/-
  A memory that is looked at by a list of looks: plain facts.
-/
namespace Go.Sg
open Go Go.RowKit
section
variable {P : Program}
end
namespace Mm
def step (M : Mm) (l : Lk) : Mm := if l.2.2.2 then M.write l.1 l.2.1 (cellL l.2.2.1) else M.look l.1 l.2.1 false
def run (M : Mm) (ls : List Lk) : Mm := ls.foldl step M
theorem look_evs (M : Mm) (r a : Int) (b : Bool) : (M.look r a b).evs = if M.has r a then M.evs ++ [(r, a, b)] else M.evs := by unfold look; split <;> rfl
theorem write_evs (M : Mm) (r a : Int) (c : List Int) : (M.write r a c).evs = if M.has r a then M.evs ++ [(r, a, true)] else M.evs := by
  unfold write
  split
  · rename_i h
    show (M.look r a true).evs = _
    rw [look_evs, if_pos h]
  · rename_i h
    rw [look_evs, if_neg h]
theorem put_size (M : Mm) (r a : Int) (c : List Int) (x : Int) : (M.put r a c).size x = M.size x := by
  unfold size put
  split
  · simp only [List.getElem?_modify]
    cases h : M.regs[x.toNat]? with
    | none => simp
    | some g => by_cases e : r.toNat = x.toNat <;> simp [e]
  · rfl
theorem look_size (M : Mm) (r a : Int) (b : Bool) (x : Int) : (M.look r a b).size x = M.size x := by
  unfold size
  rw [look_regs]
end Mm
end Go.Sg
end
section

/-
  What is read behind what was written: plain facts of a memory.
-/
namespace Go.Sg.Mm
open Go Go.RowKit
theorem has_of_size {M N : Mm} (h : ∀ r, N.size r = M.size r) (r a : Int) : N.has r a = M.has r a := by unfold has; rw [h]
theorem look_has (M : Mm) (r a : Int) (b : Bool) (x y : Int) : (M.look r a b).has x y = M.has x y := has_of_size (look_size M r a b) x y
theorem put_has (M : Mm) (r a : Int) (c : List Int) (x y : Int) : (M.put r a c).has x y = M.has x y := has_of_size (put_size M r a c) x y
theorem read_look (M : Mm) (r a : Int) (b : Bool) (x y : Int) : (M.look r a b).read x y = M.read x y := by unfold read; rw [look_has, look_regs]
theorem read_nohas {M : Mm} {r a : Int} (h : M.has r a = false) : M.read r a = zeros := by simp [read, h]
theorem read_put {M : Mm} {r a : Int} (c : List Int) (h : M.has r a = true) (x y : Int) : (M.put r a c).read x y = if r = x ∧ a = y then c else M.read x y := by
  cases hx : M.has x y with
  | false =>
    rw [read_nohas (by rw [put_has]; exact hx), read_nohas hx, if_neg (by rintro ⟨rfl, rfl⟩; rw [h] at hx; cases hx)]
  | true =>
    obtain ⟨i, j, hi, hj, rfl, rfl⟩ := has_spec h
    obtain ⟨i', j', hi', hj', rfl, rfl⟩ := has_spec hx
    have hl : (M.put i j c).regs.length = M.regs.length := by simp [put]
    have e : (M.put i j c).regs[i']'(by rw [hl]; exact hi') = if i = i' then (M.regs[i']).set j c else M.regs[i'] := by
      simp only [put, List.getElem_modify, Int.toNat_natCast]
    have hj2 : j' < ((M.put i j c).regs[i']'(by rw [hl]; exact hi')).length := by
      rw [e]; split
      · simpa using hj'
      · exact hj'
    rw [read_in (by rw [hl]; exact hi') hj2, read_in hi' hj']
    by_cases hii : i = i'
    · subst hii
      have e2 : (M.put i j c).regs[i]'(by rw [hl]; exact hi') = (M.regs[i]).set j c := by rw [e, if_pos rfl]
      simp only [e2]
      rw [List.getElem_set]
      by_cases hjj : j = j'
      · rw [if_pos hjj, if_pos ⟨trivial, by rw [hjj]⟩]
      · rw [if_neg hjj, if_neg (by rintro ⟨_, h2⟩; exact hjj (by omega))]
    · have e2 : (M.put i j c).regs[i']'(by rw [hl]; exact hi') = M.regs[i'] := by rw [e, if_neg hii]
      simp only [e2]
      rw [if_neg (by rintro ⟨h1, _⟩; exact hii (by omega))]
end Go.Sg.Mm
end
section

/-
  A memory whose region is looked at whole: plain facts.
-/
namespace Go.Sg
open Go Go.RowKit
def readsL (r : Int) (n : Nat) : List Ev := (List.range n).map fun i : Nat => (r, (i : Int), false)
def writesL (r : Int) (n : Nat) : List Ev := (List.range n).flatMap fun i : Nat => [(r, (i : Int), false), (r, (i : Int), true)]
theorem writesL_succ (r : Int) (n : Nat) : writesL r (n + 1) = writesL r n ++ [(r, (n : Int), false), (r, (n : Int), true)] := by simp [writesL, List.range_succ]
theorem writesL_len (r : Int) : ∀ n, (writesL r n).length = 2 * n
  | 0 => rfl
  | n + 1 => by rw [writesL_succ, List.length_append, writesL_len r n]; simp; omega
/-- the first place of some -/
def firstI (p : Nat → Bool) : Nat → Option Nat
  | 0 => none
  | k + 1 => match firstI p k with
    | some i => some i
    | none => if p k then some k else none
def cntI' (p : Nat → Bool) : Nat → Nat
  | 0 => 0
  | k + 1 => cntI' p k + (if p k then 1 else 0)
namespace Mm
/-- looks are noted -/
def noted (M : Mm) (es : List Ev) : Mm := { M with evs := M.evs ++ es }
theorem noted_nil (M : Mm) : M.noted [] = M := by simp [noted]
theorem noted_noted (M : Mm) (a b : List Ev) : (M.noted a).noted b = M.noted (a ++ b) := by simp [noted]
theorem noted_size (M : Mm) (es : List Ev) (r : Int) : (M.noted es).size r = M.size r := rfl
theorem noted_has (M : Mm) (es : List Ev) (r a : Int) : (M.noted es).has r a = M.has r a := rfl
theorem noted_read (M : Mm) (es : List Ev) (r a : Int) : (M.noted es).read r a = M.read r a := rfl
theorem noted_put (M : Mm) (es : List Ev) (r a : Int) (c : List Int) : (M.noted es).put r a c = (M.put r a c).noted es := rfl
theorem noted_evs (M : Mm) (es : List Ev) : (M.noted es).evs = M.evs ++ es := rfl
theorem look_noted {M : Mm} {r a : Int} (h : M.has r a = true) (b : Bool) : M.look r a b = M.noted [(r, a, b)] := by simp [look, h, noted]
theorem write_noted {M : Mm} {r a : Int} (h : M.has r a = true) (c : List Int) : M.write r a c = (M.put r a c).noted [(r, a, true)] := by
  unfold write
  rw [if_pos h, look_noted h, noted_put]
theorem has_lt {M : Mm} {r : Int} {k : Nat} (h : k < M.size r) : M.has r (k : Int) = true := by
  simp only [has, Bool.and_eq_true, decide_eq_true_eq]
  omega
/-- what a Put has made so far -/
def putIf (M : Mm) (b : Bool) (r at' : Int) (c : List Int) (k : Nat) : Mm := if b = true ∧ at' < (k : Int) then M.put r at' c else M
/-- the cell that a Get tells, k cells having been looked at -/
def getK (M : Mm) (r at' : Int) (k : Nat) : List Int := if at' < (k : Int) then M.read r at' else zeros
/-- has a cell a word? -/
def keyIs (M : Mm) (r key n : Int) (i : Nat) : Bool := decide (0 ≤ key) && decide (key < 12) && decide ((M.read r (i : Int))[key.toNat]? = some n)
end Mm
end Go.Sg
end
section

/-
  Two memories of one world, and a block beside them: what the calls do to both.
-/
namespace Go.Sg
open Go Go.RowKit
theorem write_evs_le (M : Mm) (r a : Int) (c : List Int) : (M.write r a c).evs.length ≤ M.evs.length + 1 := by
  rw [Mm.write_evs]
  split
  · rw [List.length_append]; simp
  · omega
theorem look_evs_le (M : Mm) (r a : Int) (b : Bool) : (M.look r a b).evs.length ≤ M.evs.length + 1 := by
  rw [Mm.look_evs]
  split
  · rw [List.length_append]; simp
  · omega
end Go.Sg
namespace Go.Proofs.YthchfdobdghdoaaGreat
open Go Go.RowKit Go.Sg
/-- p and q are two memories that share nothing; both are newer than w0; block b is beside them. -/
def TwoB (Tp Tq : Nat) (w0 w : World) (p q : Nat) (M N : Mm) (b : Nat) (cs : Array Value) (t : TypeId) : Prop :=
  ∃ F G : Nat → Prop, MemRep w Tp p M F ∧ MemRep w Tq q N G ∧ (∀ k, F k → w0.heap.size ≤ k) ∧ (∀ k, G k → w0.heap.size ≤ k) ∧ (∀ k, F k → ¬ G k) ∧ Below w0.heap.size w0 w ∧ Blk w b cs t ∧ ¬ F b ∧ ¬ G b
def TwoR (Tp Tq : Nat) (w0 w : World) (p q : Nat) (M N : Mm) : Prop :=
  ∃ F G : Nat → Prop, MemRep w Tp p M F ∧ MemRep w Tq q N G ∧ (∀ k, F k → w0.heap.size ≤ k) ∧ (∀ k, G k → w0.heap.size ≤ k) ∧ (∀ k, F k → ¬ G k) ∧ Below w0.heap.size w0 w
variable {Tp Tq : Nat} {w0 w w' : World} {p q : Nat} {M N : Mm} {b : Nat} {cs : Array Value} {t : TypeId}
theorem TwoB.two (h : TwoB Tp Tq w0 w p q M N b cs t) : TwoR Tp Tq w0 w p q M N := by
  obtain ⟨F, G, h1, h2, h3, h4, h5, h6, _⟩ := h
  exact ⟨F, G, h1, h2, h3, h4, h5, h6⟩
theorem TwoB.blk (h : TwoB Tp Tq w0 w p q M N b cs t) : Blk w b cs t := by
  obtain ⟨F, G, h1, h2, h3, h4, h5, h6, h7, _⟩ := h
  exact h7
theorem TwoR.ok (h : TwoR Tp Tq w0 w p q M N) : M.ok ∧ N.ok := by
  obtain ⟨F, G, h1, h2, _⟩ := h
  exact ⟨h1.ok, h2.ok⟩
theorem TwoR.old (h : TwoR Tp Tq w0 w p q M N) : Below w0.heap.size w0 w := by
  obtain ⟨F, G, h1, h2, h3, h4, h5, h6⟩ := h
  exact h6
theorem TwoR.below (h : TwoR Tp Tq w0 w p q M N) (hb : Below w.heap.size w w') : TwoR Tp Tq w0 w' p q M N := by
  obtain ⟨F, G, h1, h2, h3, h4, h5, h6⟩ := h
  exact ⟨F, G, h1.below hb, h2.below hb, h3, h4, h5, h6.trans (hb.mono h6.size)⟩
theorem TwoB.below (h : TwoB Tp Tq w0 w p q M N b cs t) (hb : Below w.heap.size w w') : TwoB Tp Tq w0 w' p q M N b cs t := by
  obtain ⟨F, G, h1, h2, h3, h4, h5, h6, h7, h8⟩ := h
  exact ⟨F, G, h1.below hb, h2.below hb, h3, h4, h5, h6.trans (hb.mono h6.size), h7.below hb h7.lt, h8⟩
theorem TwoB.drew (h : TwoB Tp Tq w0 w p q M N b cs t) : TwoB Tp Tq w0 w.drew p q M N b cs t := h.below ((Below.refl _ _).drew)
theorem TwoR.drew (h : TwoR Tp Tq w0 w p q M N) : TwoR Tp Tq w0 w.drew p q M N := h.below ((Below.refl _ _).drew)
theorem TwoR.box (h : TwoR Tp Tq w0 w p q M N) (cs : Array Value) (t : TypeId) : TwoB Tp Tq w0 (w.alloc (.cells cs t)) p q M N w.heap.size cs t := by
  obtain ⟨F, G, h1, h2, h3, h4, h5, h6⟩ := h
  have hb : Below w.heap.size w (w.alloc (.cells cs t)) := (Below.refl _ _).alloc (Nat.le_refl _) _
  exact ⟨F, G, h1.below hb, h2.below hb, h3, h4, h5, h6.trans (hb.mono h6.size), Blk.new w cs t, fun h => Nat.lt_irrefl _ (h1.lt _ h), fun h => Nat.lt_irrefl _ (h2.lt _ h)⟩
theorem TwoB.row (h : TwoB Tp Tq w0 w p q M N b cs t) (hw : w0.heap.size ≤ b) (cs2 : Array Value) : TwoB Tp Tq w0 (w.setRow b cs2) p q M N b cs2 t := by
  obtain ⟨F, G, h1, h2, h3, h4, h5, h6, h7, h8, h9⟩ := h
  have hs : (w.setRow b cs2).heap.size = w.heap.size := by simp [World.setRow]
  refine ⟨F, G, h1.keep (Nat.le_of_eq hs.symm) (fun k hk => setRow_other w b k cs2 (fun e => h8 (e ▸ hk))), h2.keep (Nat.le_of_eq hs.symm) (fun k hk => setRow_other w b k cs2 (fun e => h9 (e ▸ hk))), h3, h4, h5, below_setRow h6 hw cs2, h7.setRow cs2, h8, h9⟩
theorem TwoB.swap (h : TwoB Tp Tq w0 w p q M N b cs t) : TwoB Tq Tp w0 w q p N M b cs t := by
  obtain ⟨F, G, h1, h2, h3, h4, h5, h6, h7, h8, h9⟩ := h
  exact ⟨G, F, h2, h1, h4, h3, fun k hg hf => h5 k hf hg, h6, h7, h9, h8⟩
theorem TwoR.swap (h : TwoR Tp Tq w0 w p q M N) : TwoR Tq Tp w0 w q p N M := by
  obtain ⟨F, G, h1, h2, h3, h4, h5, h6⟩ := h
  exact ⟨G, F, h2, h1, h4, h3, fun k hg hf => h5 k hf hg, h6⟩
/-- what a call does to the first memory leaves the second one -/
theorem TwoB.post {F G : Nat → Prop} {M' : Mm} (h1 : MemRep w Tp p M F) (h2 : MemRep w Tq q N G) (h3 : ∀ k, F k → w0.heap.size ≤ k) (h4 : ∀ k, G k → w0.heap.size ≤ k) (h5 : ∀ k, F k → ¬ G k) (h6 : Below w0.heap.size w0 w)
    (h7 : Blk w b cs t) (h8 : ¬ F b) (h9 : ¬ G b) (hp : MemPost Tp p M' F w w') : TwoB Tp Tq w0 w' p q M' N b cs t :=
  ⟨Grow F w w', G, hp.1, h2.frame hp.2 (fun k hg hf => h5 k hf hg), Grow.ge h3 h6.size, h4, fun k hk hg => by
    rcases hk with hk | hk
    · exact h5 k hk hg
    · have := h2.lt k hg; omega, h6.trans (hp.2.below h3 h6.size), Blk_keep h7 (hp.2.block b h7.lt h8), fun hb => by
    rcases hb with hb | hb
    · exact h8 hb
    · have := h7.lt; omega, h9⟩
theorem TwoR.post {F G : Nat → Prop} {M' : Mm} (h1 : MemRep w Tp p M F) (h2 : MemRep w Tq q N G) (h3 : ∀ k, F k → w0.heap.size ≤ k) (h4 : ∀ k, G k → w0.heap.size ≤ k) (h5 : ∀ k, F k → ¬ G k) (h6 : Below w0.heap.size w0 w)
    (hp : MemPost Tp p M' F w w') : TwoR Tp Tq w0 w' p q M' N :=
  ⟨Grow F w w', G, hp.1, h2.frame hp.2 (fun k hg hf => h5 k hf hg), Grow.ge h3 h6.size, h4, fun k hk hg => by
    rcases hk with hk | hk
    · exact h5 k hk hg
    · have := h2.lt k hg; omega, h6.trans (hp.2.below h3 h6.size)⟩

end Go.Proofs.YthchfdobdghdoaaGreat
end
section

/-
  A memory, and whatever lies beside it: what the calls do to it.
-/
namespace Go.Proofs.YthchfdobdghdoaaGreat
open Go Go.RowKit Go.Sg
/-- X hangs on the blocks D alone. -/
def Keeps (D : Nat → Prop) (X : World → Prop) : Prop := ∀ w w' : World, w.heap.size ≤ w'.heap.size → (∀ k, D k → w'.heap[k]? = w.heap[k]?) → X w → X w'
/-- p is a memory that reads as M, newer than w0; beside it, in blocks D, lies what X tells. -/
def OneX (T : Nat) (w0 w : World) (p : Nat) (M : Mm) (D : Nat → Prop) (X : World → Prop) : Prop :=
  ∃ F : Nat → Prop, MemRep w T p M F ∧ (∀ k, F k → w0.heap.size ≤ k) ∧ Below w0.heap.size w0 w ∧ (∀ k, D k → ¬ F k) ∧ (∀ k, D k → k < w.heap.size) ∧ X w
def OneR (T : Nat) (w0 w : World) (p : Nat) (M : Mm) : Prop := OneX T w0 w p M (fun _ => False) (fun _ => True)
theorem keeps_true : Keeps (fun _ => False) (fun _ => True) := fun _ _ _ _ _ => trivial
theorem keeps_and {D E : Nat → Prop} {X Y : World → Prop} (h : Keeps D X) (k : Keeps E Y) : Keeps (fun i => D i ∨ E i) (fun w => X w ∧ Y w) :=
  fun w w' hs hb ⟨hx, hy⟩ => ⟨h w w' hs (fun i hi => hb i (.inl hi)) hx, k w w' hs (fun i hi => hb i (.inr hi)) hy⟩
theorem keeps_blk (b : Nat) (cs : Array Value) (t : TypeId) : Keeps (fun k => k = b) (fun w => Blk w b cs t) := fun _ _ _ hb hx => Blk_keep hx (hb b rfl)
theorem cell_of_heap {w w' : World} {b o : Nat} (h : w'.heap[b]? = w.heap[b]?) : w'.cell? ⟨b, o, none⟩ = w.cell? ⟨b, o, none⟩ := by
  exact World.cell?_of_block (w := w) h
/-- the blocks of a slice of looks -/
def OwnE (v : Value) (es : List Ev) : Nat → Prop := fun k => v.ownBlock = some k ∧ es ≠ []
variable {T : Nat} {w0 w w' : World} {p : Nat} {M : Mm} {D : Nat → Prop} {X : World → Prop}
theorem OneX.x (h : OneX T w0 w p M D X) : X w := by
  obtain ⟨F, h1, h2, h3, h4, h5, h6⟩ := h
  exact h6
theorem OneX.old (h : OneX T w0 w p M D X) : Below w0.heap.size w0 w := by
  obtain ⟨F, h1, h2, h3, h4, h5, h6⟩ := h
  exact h3
theorem OneX.ok (h : OneX T w0 w p M D X) : M.ok := by
  obtain ⟨F, h1, _⟩ := h
  exact h1.ok
theorem OneX.below (hK : Keeps D X) (h : OneX T w0 w p M D X) (hb : Below w.heap.size w w') : OneX T w0 w' p M D X := by
  obtain ⟨F, h1, h2, h3, h4, h5, h6⟩ := h
  exact ⟨F, h1.below hb, h2, h3.trans (hb.mono h3.size), h4, fun k hk => Nat.lt_of_lt_of_le (h5 k hk) hb.size, hK w w' hb.size (fun k hk => hb.block k (h5 k hk)) h6⟩
theorem OneX.drew (hK : Keeps D X) (h : OneX T w0 w p M D X) : OneX T w0 w.drew p M D X := h.below hK ((Below.refl _ _).drew)
theorem OneX.one (h : OneX T w0 w p M D X) : OneR T w0 w p M := by
  obtain ⟨F, h1, h2, h3, h4, h5, h6⟩ := h
  exact ⟨F, h1, h2, h3, fun _ h => h.elim, fun _ h => h.elim, trivial⟩
/-- more lies beside it, in blocks that are no part of it -/
theorem OneX.more {E : Nat → Prop} {Y : World → Prop} (h : OneX T w0 w p M D X) (hE : ∀ F, MemRep w T p M F → ∀ k, E k → ¬ F k ∧ k < w.heap.size) (hy : Y w) : OneX T w0 w p M (fun i => D i ∨ E i) (fun w => X w ∧ Y w) := by
  obtain ⟨F, h1, h2, h3, h4, h5, h6⟩ := h
  exact ⟨F, h1, h2, h3, fun k hk => hk.elim (h4 k) (fun h => (hE F h1 k h).1), fun k hk => hk.elim (h5 k) (fun h => (hE F h1 k h).2), h6, hy⟩
/-- a new block lies beside it -/
theorem OneX.box (hK : Keeps D X) (h : OneX T w0 w p M D X) (cs : Array Value) (t : TypeId) : OneX T w0 (w.alloc (.cells cs t)) p M (fun i => D i ∨ i = w.heap.size) (fun w' => X w' ∧ Blk w' w.heap.size cs t) := by
  obtain ⟨F, h1, h2, h3, h4, h5, h6⟩ := h
  have hb : Below w.heap.size w (w.alloc (.cells cs t)) := (Below.refl _ _).alloc (Nat.le_refl _) _
  refine ⟨F, h1.below hb, h2, h3.trans (hb.mono h3.size), fun k hk => hk.elim (h4 k) (fun e hF => ?_), fun k hk => hk.elim (fun h => Nat.lt_of_lt_of_le (h5 k h) hb.size) (fun e => by subst e; simp), hK w _ hb.size (fun k hk => hb.block k (h5 k hk)) h6, Blk.new w cs t⟩
  subst e
  exact Nat.lt_irrefl _ (h1.lt _ hF)
/-- what new memory a call has made lies beside it -/
theorem OneX.ret (hK : Keeps D X) {E : Nat → Prop} {Y : World → Prop} (h : OneX T w0 w p M D X) (hb : Below w.heap.size w w') (hE : ∀ k, E k → w.heap.size ≤ k ∧ k < w'.heap.size) (hy : Y w') : OneX T w0 w' p M (fun i => D i ∨ E i) (fun w => X w ∧ Y w) := by
  obtain ⟨F, h1, h2, h3, h4, h5, h6⟩ := h
  exact ⟨F, h1.below hb, h2, h3.trans (hb.mono h3.size), fun k hk => hk.elim (h4 k) (fun h hF => by have := h1.lt k hF; have := (hE k h).1; omega), fun k hk => hk.elim (fun h => Nat.lt_of_lt_of_le (h5 k h) hb.size) (fun h => (hE k h).2), hK w w' hb.size (fun k hk => hb.block k (h5 k hk)) h6, hy⟩
/-- what lies beside it is forgotten -/
theorem OneX.less {E : Nat → Prop} {Y : World → Prop} (h : OneX T w0 w p M D X) (hE : ∀ k, E k → D k) (hy : X w → Y w) : OneX T w0 w p M E Y := by
  obtain ⟨F, h1, h2, h3, h4, h5, h6⟩ := h
  exact ⟨F, h1, h2, h3, fun k hk => h4 k (hE k hk), fun k hk => h5 k (hE k hk), hy h6⟩
/-- what lies beside it turns, and nothing else -/
theorem OneX.turn {E : Nat → Prop} {Y : World → Prop} (h : OneX T w0 w p M D X) (hE : ∀ k, E k → D k) (hf : MFrame (fun k => D k ∧ w0.heap.size ≤ k) w w') (hy : Y w') : OneX T w0 w' p M E Y := by
  obtain ⟨F, h1, h2, h3, h4, h5, h6⟩ := h
  exact ⟨F, h1.frame hf (fun k hk hd => h4 k hd.1 hk), h2, h3.trans (hf.below (fun k hk => hk.2) h3.size), fun k hk => h4 k (hE k hk), fun k hk => Nat.lt_of_lt_of_le (h5 k (hE k hk)) hf.size, hy⟩
theorem OneX.post {F : Nat → Prop} {M' : Mm} (hK : Keeps D X) (h1 : MemRep w T p M F) (h2 : ∀ k, F k → w0.heap.size ≤ k) (h3 : Below w0.heap.size w0 w) (h4 : ∀ k, D k → ¬ F k) (h5 : ∀ k, D k → k < w.heap.size) (h6 : X w) (hp : MemPost T p M' F w w') : OneX T w0 w' p M' D X :=
  ⟨Grow F w w', hp.1, Grow.ge h2 h3.size, h3.trans (hp.2.below h2 h3.size), fun k hk hg => by
    rcases hg with hg | hg
    · exact h4 k hk hg
    · have := h5 k hk; omega, fun k hk => Nat.lt_of_lt_of_le (h5 k hk) hp.2.size, hK w w' hp.2.size (fun k hk => hp.2.block k (h5 k hk) (h4 k hk)) h6⟩

theorem one_read (hK : Keeps D X) (r a : Int) (h : OneX 88 w0 w p M D X) (hN : M.evs.length ≤ 1099511627776) :
    Calls Tryz.prog 29 #[.pointer (some ⟨p, 0, none⟩), .int .i64 r, .int .i64 a] w fun e w' => e = .returned (.agg (cw (M.read r a))) ∧ OneX 88 w0 w' p (M.look r a false) D X := by
  obtain ⟨F, h1, h2, h3, h4, h5, h6⟩ := h
  exact (memRead_any r a w h1 hN).mono fun e w' ⟨he, hp⟩ => ⟨he, OneX.post hK h1 h2 h3 h4 h5 h6 hp⟩
theorem one_write (hK : Keeps D X) (r a : Int) (c : List Int) (hc : c.length = 12) (hw : ∀ x ∈ c, Word x) (h : OneX 88 w0 w p M D X) (hN : M.evs.length ≤ 1099511627776) :
    Calls Tryz.prog 72 #[.pointer (some ⟨p, 0, none⟩), .int .i64 r, .int .i64 a, .agg (cw c)] w fun e w' => e = .returned (.tuple #[]) ∧ OneX 88 w0 w' p (M.write r a c) D X := by
  obtain ⟨F, h1, h2, h3, h4, h5, h6⟩ := h
  exact (memWrite_any r a c hc hw w h1 hN).mono fun e w' ⟨he, hp⟩ => ⟨he, OneX.post hK h1 h2 h3 h4 h5 h6 hp⟩
theorem one_size (r : Int) (h : OneX 88 w0 w p M D X) :
    Calls Tryz.prog 45 #[.pointer (some ⟨p, 0, none⟩), .int .i64 r] w fun e w' => e = .returned (.int .i64 (M.size r)) ∧ w' = w := by
  obtain ⟨F, h1, _⟩ := h
  exact memSize_any r w h1
end Go.Proofs.YthchfdobdghdoaaGreat
end
section

/-
  The document's memory, and whatever lies beside it; two memories as one beside the other.
-/
namespace Go.Proofs.YthchfdobdghdoaaGreat
open Go Go.RowKit Go.Sg
variable {T T' : Nat} {w0 w w' : World} {p q : Nat} {M N : Mm} {D : Nat → Prop} {X : World → Prop}
theorem one_rsize (r : Int) (h : OneX 71 w0 w p M D X) :
    Calls Tryz.prog 28 #[.pointer (some ⟨p, 0, none⟩), .int .i64 r] w fun e w' => e = .returned (.int .i64 (M.size r)) ∧ w' = w := by
  obtain ⟨F, h1, _⟩ := h
  exact ref3Size_any r w h1
/-- another memory lies beside it -/
def MemX (T q : Nat) (N : Mm) (G : Nat → Prop) : World → Prop := fun w => MemRep w T q N G
theorem keeps_mem (T q : Nat) (N : Mm) (G : Nat → Prop) : Keeps G (MemX T q N G) := fun _ _ hs hb hx => hx.keep hs hb
/-- two memories, and what lies beside both -/
def PairX (T T' : Nat) (w0 w : World) (p q : Nat) (M N : Mm) (D : Nat → Prop) (X : World → Prop) : Prop :=
  ∃ G : Nat → Prop, OneX T w0 w p M (fun k => D k ∨ G k) (fun w => X w ∧ MemX T' q N G w) ∧ (∀ k, G k → w0.heap.size ≤ k) ∧ (∀ k, D k → ¬ G k)
theorem PairX.x (h : PairX T T' w0 w p q M N D X) : X w := by
  obtain ⟨G, h1, _⟩ := h
  exact h1.x.1
theorem PairX.old (h : PairX T T' w0 w p q M N D X) : Below w0.heap.size w0 w := by
  obtain ⟨G, h1, _⟩ := h
  exact h1.old
theorem PairX.ok (h : PairX T T' w0 w p q M N D X) : M.ok ∧ N.ok := by
  obtain ⟨G, h1, _⟩ := h
  exact ⟨h1.ok, h1.x.2.ok⟩
theorem PairX.below (hK : Keeps D X) (h : PairX T T' w0 w p q M N D X) (hb : Below w.heap.size w w') : PairX T T' w0 w' p q M N D X := by
  obtain ⟨G, h1, h2, h3⟩ := h
  exact ⟨G, h1.below (keeps_and hK (keeps_mem _ _ _ _)) hb, h2, h3⟩
theorem PairX.drew (hK : Keeps D X) (h : PairX T T' w0 w p q M N D X) : PairX T T' w0 w.drew p q M N D X := h.below hK ((Below.refl _ _).drew)
theorem PairX.swap (h : PairX T T' w0 w p q M N D X) : PairX T' T w0 w q p N M D X := by
  obtain ⟨G, ⟨F, h1, h2, h3, h4, h5, h6⟩, hG, hD⟩ := h
  exact ⟨F, ⟨G, h6.2, hG, h3, fun k hk => hk.elim (hD k) (fun hf hg => h4 k (.inr hg) hf), fun k hk => hk.elim (fun h => h5 k (.inl h)) (h1.lt k), h6.1, h1⟩, h2, fun k hk => h4 k (.inl hk)⟩
/-- the second one is forgotten -/
theorem PairX.left (h : PairX T T' w0 w p q M N D X) : OneX T w0 w p M D X := by
  obtain ⟨G, h1, _⟩ := h
  exact h1.less (fun k hk => .inl hk) (fun h => h.1)
/-- what a call tells of one memory tells of both -/
theorem PairX.call {P : Program} {f : FuncId} {args : Array Value} {R : Ending → Prop} {M' : Mm} (hK : Keeps D X) (h : PairX T T' w0 w p q M N D X)
    (hc : ∀ (D' : Nat → Prop) (X' : World → Prop), Keeps D' X' → OneX T w0 w p M D' X' → Calls P f args w fun e w' => R e ∧ OneX T w0 w' p M' D' X') :
    Calls P f args w fun e w' => R e ∧ PairX T T' w0 w' p q M' N D X := by
  obtain ⟨G, h1, h2, h3⟩ := h
  exact (hc _ _ (keeps_and hK (keeps_mem _ _ _ _)) h1).mono fun e w' ⟨he, hx⟩ => ⟨he, G, hx, h2, h3⟩
/-- a new block lies beside both -/
theorem PairX.box (hK : Keeps D X) (h : PairX T T' w0 w p q M N D X) (cs : Array Value) (t : TypeId) : PairX T T' w0 (w.alloc (.cells cs t)) p q M N (fun i => D i ∨ i = w.heap.size) (fun w' => X w' ∧ Blk w' w.heap.size cs t) := by
  obtain ⟨G, h1, h2, h3⟩ := h
  have hb := h1.box (keeps_and hK (keeps_mem _ _ _ _)) cs t
  refine ⟨G, hb.less (fun k hk => ?_) (fun h => ⟨⟨h.1.1, h.2⟩, h.1.2⟩), h2, fun k hk => hk.elim (h3 k) (fun e hg => ?_)⟩
  · rcases hk with (hk | hk) | hk
    · exact .inl (.inl hk)
    · exact .inr hk
    · exact .inl (.inr hk)
  · subst e
    exact Nat.lt_irrefl _ (h1.x.2.lt _ hg)
theorem PairX.ret (hK : Keeps D X) {E : Nat → Prop} {Y : World → Prop} (h : PairX T T' w0 w p q M N D X) (hb : Below w.heap.size w w') (hE : ∀ k, E k → w.heap.size ≤ k ∧ k < w'.heap.size) (hy : Y w') : PairX T T' w0 w' p q M N (fun i => D i ∨ E i) (fun w => X w ∧ Y w) := by
  obtain ⟨G, h1, h2, h3⟩ := h
  have hx := h1.ret (keeps_and hK (keeps_mem _ _ _ _)) hb hE hy
  refine ⟨G, hx.less (fun k hk => ?_) (fun h => ⟨⟨h.1.1, h.2⟩, h.1.2⟩), h2, fun k hk => hk.elim (h3 k) (fun e hg => ?_)⟩
  · rcases hk with (hk | hk) | hk
    · exact .inl (.inl hk)
    · exact .inr hk
    · exact .inl (.inr hk)
  · have h1' := h1.x.2.lt k hg
    have h2' := (hE k e).1
    omega
theorem PairX.less {E : Nat → Prop} {Y : World → Prop} (h : PairX T T' w0 w p q M N D X) (hE : ∀ k, E k → D k) (hy : X w → Y w) : PairX T T' w0 w p q M N E Y := by
  obtain ⟨G, h1, h2, h3⟩ := h
  exact ⟨G, h1.less (fun k hk => hk.elim (fun h => .inl (hE k h)) .inr) (fun h => ⟨hy h.1, h.2⟩), h2, fun k hk => h3 k (hE k hk)⟩
/-- what lies beside both turns, and nothing else -/
theorem PairX.turn {E : Nat → Prop} {Y : World → Prop} (h : PairX T T' w0 w p q M N D X) (hE : ∀ k, E k → D k) (hf : MFrame (fun k => D k ∧ w0.heap.size ≤ k) w w') (hy : Y w') : PairX T T' w0 w' p q M N E Y := by
  obtain ⟨G, h1, h2, h3⟩ := h
  refine ⟨G, h1.turn (fun k hk => hk.elim (fun h => .inl (hE k h)) .inr) ⟨hf.os, hf.tape, hf.output, hf.size, fun k hk hn => hf.block k hk (fun hd => hn ⟨.inl hd.1, hd.2⟩)⟩ ⟨hy, h1.x.2.frame hf (fun k hg hd => h3 k hd.1 hg)⟩, h2, fun k hk => h3 k (hE k hk)⟩
end Go.Proofs.YthchfdobdghdoaaGreat
end
