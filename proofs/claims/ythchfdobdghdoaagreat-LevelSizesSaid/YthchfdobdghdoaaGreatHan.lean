/-
  Joined texts: SlK.
-/
import Derived.WalkKit
import Derived.Test.YthchfdobdghdoaaGreatHam
import Derived.Test.YthchfdobdghdoaaGreatHad
import Derived.Test.YthchfdobdghdoaaGreatHaa
import Derived.Deep.MidRow
set_option linter.unusedVariables false
set_option linter.unusedSimpArgs false
set_option linter.unusedSectionVars false
set_option linter.unnecessarySimpa false
section

/-
  Slices whose elements are k cells each, and blocks of them.
-/
namespace Go.Sg
open Go Go.RowKit
section
variable {α : Type}
def flatV (enc : α → List Value) (l : List α) : List Value := l.flatMap enc
/-- elements are k cells each -/
structure EncK (enc : α → List Value) (k : Nat) : Prop where
  len : ∀ x, (enc x).length = k
  one : ∀ x, ∀ u ∈ enc x, u.oneCell' = true
  pos : 0 < k
variable {enc : α → List Value} {k : Nat}
theorem flatV_cons (x : α) (l : List α) : flatV enc (x :: l) = enc x ++ flatV enc l := rfl
theorem flatV_append (l m : List α) : flatV enc (l ++ m) = flatV enc l ++ flatV enc m := by simp [flatV]
theorem flatV_snoc (l : List α) (x : α) : flatV enc (l ++ [x]) = flatV enc l ++ enc x := by simp [flatV]
theorem flatV_len (h : EncK enc k) (l : List α) : (flatV enc l).length = l.length * k := by
  induction l with
  | nil => simp [flatV]
  | cons x l ih => rw [flatV_cons, List.length_append, ih, h.len, List.length_cons, Nat.add_mul, Nat.one_mul, Nat.add_comm]
theorem flatV_take (h : EncK enc k) (l : List α) (i : Nat) : (flatV enc l).take (i * k) = flatV enc (l.take i) := by
  induction i generalizing l with
  | zero => simp [flatV]
  | succ i ih =>
    cases l with
    | nil => simp [flatV]
    | cons x l =>
      rw [flatV_cons, Nat.add_mul, Nat.one_mul, Nat.add_comm, List.take_add, List.take_succ_cons, flatV_cons]
      have h1 : (enc x ++ flatV enc l).take k = enc x := by rw [← h.len x, List.take_left']; rfl
      have h2 : (enc x ++ flatV enc l).drop k = flatV enc l := by rw [← h.len x, List.drop_left']; rfl
      rw [h1, h2, ih]
theorem flatV_drop (h : EncK enc k) (l : List α) (i : Nat) : (flatV enc l).drop (i * k) = flatV enc (l.drop i) := by
  induction i generalizing l with
  | zero => simp [flatV]
  | succ i ih =>
    cases l with
    | nil => simp [flatV]
    | cons x l =>
      rw [flatV_cons, Nat.add_mul, Nat.one_mul, Nat.add_comm, ← List.drop_drop]
      have h2 : (enc x ++ flatV enc l).drop k = flatV enc l := by rw [← h.len x, List.drop_left']; rfl
      rw [h2, ih]
      rfl
theorem flatV_at (h : EncK enc k) {l : List α} {i : Nat} (hi : i < l.length) {j : Nat} {u : Value} (hu : (enc l[i])[j]? = some u) : (flatV enc l)[i * k + j]? = some u := by
  have e : flatV enc l = flatV enc (l.take i) ++ (enc l[i] ++ flatV enc (l.drop (i + 1))) := by
    rw [← flatV_cons, ← List.drop_eq_getElem_cons hi, ← flatV_append, List.take_append_drop]
  have hl : (flatV enc (l.take i)).length = i * k := by rw [flatV_len h, List.length_take, Nat.min_eq_left (by omega)]
  rw [e, List.getElem?_append_right (by omega), hl, Nat.add_sub_cancel_left, List.getElem?_append_left (List.getElem?_eq_some_iff.1 hu).1]
  exact hu
/-- cells in the midst of others are exchanged -/
def splice (cs : List Value) (o : Nat) (vs : List Value) : List Value := cs.take o ++ vs ++ cs.drop (o + vs.length)
theorem splice_cons {cs : List Value} {o : Nat} (v : Value) (vs : List Value) (h : o < cs.length) : splice (cs.set o v) (o + 1) vs = splice cs o (v :: vs) := by
  unfold splice
  have e1 : (cs.set o v).take (o + 1) = cs.take o ++ [v] := by
    rw [List.take_succ_eq_append_getElem (by simpa using h), List.getElem_set_self, List.take_set, List.set_eq_of_length_le (by simp; omega)]
  have e2 : (cs.set o v).drop (o + 1 + vs.length) = cs.drop (o + (v :: vs).length) := by
    rw [List.drop_set, if_pos (by omega), List.length_cons, show o + 1 + vs.length = o + (vs.length + 1) by omega]
  rw [e1, e2]
  simp
theorem flatV_set (h : EncK enc k) (l : List α) (y : α) (t : List Value) {i : Nat} (hi : i < l.length) : splice (flatV enc l ++ t) (i * k) (enc y) = flatV enc (l.set i y) ++ t := by
  have hk : i * k + k ≤ l.length * k := by
    have := Nat.mul_le_mul_right k (show i + 1 ≤ l.length from hi)
    rwa [Nat.add_mul, Nat.one_mul] at this
  unfold splice
  rw [h.len, List.take_append_of_le_length (by rw [flatV_len h]; omega), List.drop_append_of_le_length (by rw [flatV_len h]; omega), flatV_take h, show i * k + k = (i + 1) * k by rw [Nat.add_mul, Nat.one_mul], flatV_drop h,
    List.set_eq_take_append_cons_drop, if_pos hi, flatV_append, flatV_cons]
  simp
theorem Blk.splice {b : Nat} {t : TypeId} : ∀ (vs : List Value) (o : Nat) (cs : List Value) {w : World}, Blk w b cs.toArray t → o + vs.length ≤ cs.length → Blk (w.setCells b o vs) b (splice cs o vs).toArray t
  | [], o, cs, w, h, _ => by
    have : Go.Sg.splice cs o [] = cs := by simp [Go.Sg.splice]
    rw [this]
    exact h
  | v :: vs, o, cs, w, h, hl => by
    rw [World.setCells, ← splice_cons v vs (by simp at hl; omega)]
    refine Blk.splice vs (o + 1) _ ?_ (by simp at hl ⊢; omega)
    have := h.set o v
    rwa [List.setIfInBounds_toArray] at this
/-- The slice v reads as the elements l. -/
def SlK (enc : α → List Value) (w : World) (v : Value) (l : List α) : Prop :=
  ∃ a cap, v = .slice a l.length cap ∧ l.length ≤ cap ∧ cap ≤ maxLen ∧ (l ≠ [] → ∃ b off, a = some ⟨b, off, none⟩ ∧ b < w.heap.size ∧ w.rangeAt b off (flatV enc l))
theorem SlK.below {w w' : World} {v : Value} {l : List α} (h : SlK enc w v l) (hb : Below w.heap.size w w') : SlK enc w' v l := by
  obtain ⟨a, cap, rfl, h1, h2, h3⟩ := h
  refine ⟨a, cap, rfl, h1, h2, fun hn => ?_⟩
  obtain ⟨b, off, rfl, hlt, hr⟩ := h3 hn
  exact ⟨b, off, rfl, Nat.lt_of_lt_of_le hlt hb.size, fun j u hu => (hb.cell (p := ⟨b, off + j, none⟩) hlt).trans (hr j u hu)⟩
theorem SlK.of_owns {w : World} {base : Nat} {e : TypeId} {v : Value} {l : List α} (h : w.ownsRow base e k v l.length (flatV enc l)) : SlK enc w v l := by
  rcases h.2 with ⟨rfl, h0⟩ | ⟨g, cap, cur, rfl, hb, hg, hn, hm, hsz, ht⟩
  · have : l = [] := List.length_eq_zero_iff.1 h0
    subst this
    exact ⟨none, 0, rfl, Nat.le_refl _, by simp, fun h => absurd rfl h⟩
  · refine ⟨_, cap, rfl, hn, hm, fun _ => ⟨g, 0, rfl, lt_of_block hg, fun j u hu => ?_⟩⟩
    rw [Nat.zero_add, cell_of_row w g j cur e (0, 0) hg]
    rw [← ht, List.getElem?_take] at hu
    split at hu
    · simpa using hu
    · simp at hu
theorem SlK.nil {w : World} : SlK enc w (.slice none 0 0) ([] : List α) := ⟨none, 0, rfl, Nat.le_refl _, by simp, fun h => absurd rfl h⟩
theorem range_flat (h : EncK enc k) {w : World} {b off : Nat} {l : List α} (hr : w.rangeAt b off (flatV enc l)) {i : Nat} (hi : i < l.length) : w.rangeAt b (off + i * k) (enc l[i]) := by
  intro j u hu
  rw [Nat.add_assoc]
  exact hr (i * k + j) u (flatV_at h hi hu)
end
end Go.Sg
end
