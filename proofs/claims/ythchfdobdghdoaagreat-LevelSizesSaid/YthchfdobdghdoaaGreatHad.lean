/-
  Joined texts: Blk, MFr.
-/
import Derived.WalkKit
import Derived.Lib.Hide
import Derived.Laws.Rows
import Derived.Laws.Tables
import Derived.Deep.MidRow
import Derived.Laws.CopyOwn
set_option linter.unusedVariables false
set_option linter.unusedSimpArgs false
set_option linter.unusedSectionVars false
set_option linter.unnecessarySimpa false
section

/-
  Blocks of memory known whole: how they read, and what stores, new blocks and draws make of them.
-/
namespace Go.Sg
open Go Go.RowKit

/-- Block b holds these cells, none of them frozen. -/
def Blk (w : World) (b : Nat) (cs : Array Value) (t : TypeId) : Prop := w.heap[b]? = some (.cells cs t (0, 0))

theorem Blk.cell {w : World} {b : Nat} {cs : Array Value} {t : TypeId} (h : Blk w b cs t) (o : Nat) : w.cell? ⟨b, o, none⟩ = cs[o]? := cell_of_row w b o cs t _ h
theorem Blk.free {w : World} {b : Nat} {cs : Array Value} {t : TypeId} (h : Blk w b cs t) (o : Nat) : w.frozen? ⟨b, o, none⟩ = false := frozen_of_row w b o cs t h
theorem Blk.lt {w : World} {b : Nat} {cs : Array Value} {t : TypeId} (h : Blk w b cs t) : b < w.heap.size := lt_of_block h
theorem Blk.drew {w : World} {b : Nat} {cs : Array Value} {t : TypeId} (h : Blk w b cs t) : Blk w.drew b cs t := h
theorem Blk.alloc {w : World} {b : Nat} {cs : Array Value} {t : TypeId} (h : Blk w b cs t) (o : Obj) : Blk (w.alloc o) b cs t := by
  unfold Blk
  rw [Below.heap_alloc w o b h.lt]
  exact h
theorem Blk.new (w : World) (cs : Array Value) (t : TypeId) : Blk (w.alloc (.cells cs t)) w.heap.size cs t := heap_alloc_new w _
theorem Blk.set {w : World} {b : Nat} {cs : Array Value} {t : TypeId} (h : Blk w b cs t) (o : Nat) (v : Value) : Blk (w.setCell ⟨b, o, none⟩ v) b (cs.setIfInBounds o v) t := heap_setCell_same w b o cs t v h
theorem Blk.other {w : World} {b : Nat} {cs : Array Value} {t : TypeId} (h : Blk w b cs t) (a : Addr) (v : Value) (hne : b ≠ a.block) : Blk (w.setCell a v) b cs t := by
  unfold Blk
  rw [heap_setCell_other w a b v hne]
  exact h
theorem Blk.below {w w' : World} {B b : Nat} {cs : Array Value} {t : TypeId} (h : Blk w b cs t) (hb : Below B w w') (hlt : b < B) : Blk w' b cs t := by
  unfold Blk
  rw [hb.block b hlt]
  exact h
theorem Blk.setRow {w : World} {b : Nat} {cs : Array Value} {t : TypeId} (h : Blk w b cs t) (cs' : Array Value) : Blk (w.setRow b cs') b cs' t := by
  exact setRow_heap w b cs cs' t _ h
theorem Blk.rowOther {w : World} {b g : Nat} {cs : Array Value} {t : TypeId} (h : Blk w b cs t) (cs' : Array Value) (hne : b ≠ g) : Blk (w.setRow g cs') b cs t := by
  unfold Blk
  rw [setRow_other w g b cs' hne]
  exact h

/-! ### A whole row read and written -/
theorem Blk.range {w : World} {b : Nat} {l : List Value} {t : TypeId} (h : Blk w b l.toArray t) : w.rangeAt b 0 l := by
  intro j v hv
  rw [Nat.zero_add, h.cell]
  simpa using hv
theorem Blk.there {w : World} {b : Nat} {cs : Array Value} {t : TypeId} (h : Blk w b cs t) (n : Nat) (hn : n ≤ cs.size) : w.there b 0 n := by
  intro j hj
  rw [Nat.zero_add, h.cell, h.free]
  exact ⟨by simp; omega, rfl⟩
theorem below_setCells {B b : Nat} {w0 : World} (hb : B ≤ b) : ∀ (vs : List Value) (o : Nat) {w : World}, Below B w0 w → Below B w0 (w.setCells b o vs)
  | [], _, _, h => h
  | v :: r, o, _, h => below_setCells hb r (o + 1) (h.setCell hb v)

/-- Two results that lie in memory, each a row. -/
theorem results_two_rows {P : Program} {fn : Func} {s t : Tmp} {ty : TypeId} (h : fn.results = #[.cell s ty, .cell t ty]) (tmps : Array Value) (w : World) (g k : Nat) (p q : List Value) (d : TypeDesc)
    (hs : tmps.getD s undef = .pointer (some ⟨g, 0, none⟩)) (ht : tmps.getD t undef = .pointer (some ⟨k, 0, none⟩)) (hg : w.rangeAt g 0 p) (hk : w.rangeAt k 0 q)
    (hu : P.underlying ty = some d) (hd : d.isRow = true) (hp : (P.info? ty).map (·.size) = some p.length) (hq : (P.info? ty).map (·.size) = some q.length) :
    (results fn tmps).run P w = .ok (.tuple #[.agg p.toArray, .agg q.toArray]) w := by
  have hs' : tmps[s]?.getD undef = .pointer (some ⟨g, 0, none⟩) := by simpa using hs
  have ht' : tmps[t]?.getD undef = .pointer (some ⟨k, 0, none⟩) := by simpa using ht
  simp [results, h, hs', ht', asAddr, run_loadVar_mid w g 0 ty p d hg hu hd hp, run_loadVar_mid w k 0 ty q d hk hu hd hq]

/-! ### A list of words as cells -/
theorem cw_one (l : List Int) : ((l.map (Value.int .u64)).toArray).all (·.oneCell') = true := by
  simp [List.all_eq_true, Value.oneCell']
def cw (l : List Int) : Array Value := (l.map (Value.int .u64)).toArray
theorem cw_size (l : List Int) : (cw l).size = l.length := by simp [cw]
theorem cw_get {l : List Int} {i : Nat} (h : i < l.length) : (cw l)[i]? = some (.int .u64 l[i]) := by simp [cw, h]
theorem cw_set {l : List Int} {i : Nat} (x : Int) : (cw l).setIfInBounds i (.int .u64 x) = cw (l.set i x) := by
  simp [cw, List.map_set]

/-- The first k words of one list, the others of another. -/
def mixed (p a : List Int) (k : Nat) : List Int := p.take k ++ a.drop k
theorem mixed_zero (p a : List Int) : mixed p a 0 = a := by simp [mixed]
theorem mixed_len {p a : List Int} {k : Nat} (h : p.length = a.length) (hk : k ≤ a.length) : (mixed p a k).length = a.length := by
  simp [mixed]; omega
theorem mixed_end {p a : List Int} {k n : Nat} (h : p.length = n) (h' : a.length = n) (hk : n ≤ k) : mixed p a k = p := by
  simp [mixed, List.take_of_length_le (show p.length ≤ k by omega)]; omega
theorem mixed_at {p a : List Int} {k : Nat} (h : p.length = a.length) (hk : k < a.length) : (mixed p a k)[k]'(by rw [mixed_len h (by omega)]; exact hk) = a[k] := by
  simp [mixed, List.getElem_append, Nat.min_def]
  split <;> simp_all <;> omega
theorem mixed_set {p a : List Int} {k : Nat} (h : p.length = a.length) (hk : k < a.length) : (mixed p a k).set k (p[k]'(by omega)) = mixed p a (k + 1) := by
  apply List.ext_getElem
  · rw [List.length_set, mixed_len h (by omega), mixed_len h (by omega)]
  · intro i h1 h2
    rw [List.getElem_set]
    split
    · rename_i e; subst e
      simp only [mixed]
      rw [List.getElem_append_left (by simp; omega)]
      simp
    · rename_i e
      simp only [mixed]
      rcases Nat.lt_or_ge i k with hlt | hge
      · rw [List.getElem_append_left (by simp; omega), List.getElem_append_left (by simp; omega)]
        simp
      · rw [List.getElem_append_right (by simp; omega), List.getElem_append_right (by simp; omega)]
        simp
        congr 1
        omega

/-- The cell of a number: unlike words. -/
def cellAt (n : Int) (k : Nat) : Int := (n * (2 * (k : Int) + 1) + (k : Int)) % 18446744073709551616
def cellL (n : Int) : List Int := (List.range 12).map (cellAt n)
theorem cellL_len (n : Int) : (cellL n).length = 12 := by simp [cellL]
theorem cellL_get {n : Int} {k : Nat} (h : k < (cellL n).length) : (cellL n)[k] = cellAt n k := by simp [cellL]
def zeros : List Int := [0, 0, 0, 0, 0, 0, 0, 0, 0, 0, 0, 0]
def z12 : Array Value := #[.int .u64 0, .int .u64 0, .int .u64 0, .int .u64 0, .int .u64 0, .int .u64 0, .int .u64 0, .int .u64 0, .int .u64 0, .int .u64 0, .int .u64 0, .int .u64 0]
theorem cw_zeros : cw zeros = z12 := rfl
end Go.Sg
end
section

/-
  Frames: all but some blocks is as it was.
-/
namespace Go.Sg
open Go Go.RowKit
/-! ### Frames -/
/-- All that is not F's is as it was. -/
structure MFrame (F : Nat → Prop) (w w' : World) : Prop where
  os : w'.os = w.os
  tape : w'.tape = w.tape
  output : w'.output = w.output
  size : w.heap.size ≤ w'.heap.size
  block : ∀ k, k < w.heap.size → ¬ F k → w'.heap[k]? = w.heap[k]?
/-- F, and all that is new. -/
def Grow (F : Nat → Prop) (w w' : World) : Nat → Prop := fun k => F k ∨ (w.heap.size ≤ k ∧ k < w'.heap.size)
theorem MFrame.refl (F : Nat → Prop) (w : World) : MFrame F w w := ⟨rfl, rfl, rfl, Nat.le_refl _, fun _ _ _ => rfl⟩
theorem MFrame.trans {F : Nat → Prop} {a b c : World} (h : MFrame F a b) (k : MFrame (Grow F a b) b c) : MFrame F a c :=
  ⟨k.os.trans h.os, k.tape.trans h.tape, k.output.trans h.output, Nat.le_trans h.size k.size, fun i hi hn =>
    (k.block i (Nat.lt_of_lt_of_le hi h.size) (fun hg => by rcases hg with hg | hg <;> first | exact hn hg | omega)).trans (h.block i hi hn)⟩
theorem MFrame.of_below {F : Nat → Prop} {w w' : World} (h : Below w.heap.size w w') : MFrame F w w' := ⟨h.os, h.tape, h.output, h.size, fun k hk _ => h.block k hk⟩
theorem MFrame.below {F : Nat → Prop} {B : Nat} {w w' : World} (h : MFrame F w w') (hF : ∀ k, F k → B ≤ k) (hB : B ≤ w.heap.size) : Below B w w' :=
  ⟨h.os, h.tape, h.output, h.size, fun k hk => h.block k (by omega) (fun hf => by have := hF k hf; omega)⟩
theorem Grow.ge {F : Nat → Prop} {B : Nat} {w w' : World} (hF : ∀ k, F k → B ≤ k) (hB : B ≤ w.heap.size) : ∀ k, Grow F w w' k → B ≤ k := by
  intro k hk
  rcases hk with hk | hk
  · exact hF k hk
  · omega
theorem MFrame.set {F : Nat → Prop} {a w : World} (h : MFrame F a w) {p : Addr} (hp : Grow F a w p.block) (u : Value) : MFrame F a (w.setCell p u) :=
  ⟨h.os, h.tape, h.output, by rw [World.size_setCell]; exact h.size, fun k hk hn => by
    rw [Below.heap_setCell w p u k (fun e => by
      subst e
      rcases hp with hp | hp
      · exact hn hp
      · omega)]
    exact h.block k hk hn⟩
theorem MFrame.setCells {F : Nat → Prop} {a : World} {b : Nat} : ∀ (vs : List Value) (o : Nat) {w : World}, Grow F a w b → MFrame F a w → MFrame F a (w.setCells b o vs)
  | [], _, _, _, h => h
  | v :: r, o, w, hb, h => by
    rw [World.setCells]
    refine MFrame.setCells r (o + 1) ?_ (h.set (p := ⟨b, o, none⟩) hb v)
    unfold Grow at hb ⊢
    rw [World.size_setCell]
    exact hb
theorem size_setCells (b : Nat) : ∀ (vs : List Value) (o : Nat) (w : World), (w.setCells b o vs).heap.size = w.heap.size
  | [], _, _ => rfl
  | v :: r, o, w => by rw [World.setCells, size_setCells b r (o + 1), World.size_setCell]
end Go.Sg
end
