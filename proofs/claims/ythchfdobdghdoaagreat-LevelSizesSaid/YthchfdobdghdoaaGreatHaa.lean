/-
  Joined texts: StabL, DealL.
-/
set_option linter.unusedVariables false
set_option linter.unusedSimpArgs false
set_option linter.unusedSectionVars false
set_option linter.unnecessarySimpa false
section

/-
  How a stable sort merges, turns and inserts: plain facts of lists.
-/
namespace Go.Sg
section
variable {α : Type}
/-- x stood ahead of y: what the comparison tells of them fits the order -/
def Fit (lt : α → α → Bool) (le : α → α → Prop) (x y : α) : Prop := (lt y x = true → le y x) ∧ (lt y x = false → le x y)
/-- two places change their elements -/
def swL (d : List α) (i j : Nat) : List α := match d[i]?, d[j]? with
  | some x, some y => (d.set i y).set j x
  | _, _ => d
theorem set_mid (A : List α) (x y : α) (B : List α) (n : Nat) (h : A.length = n) : (A ++ x :: B).set n y = A ++ y :: B := by
  subst h
  rw [List.set_append_right _ _ (Nat.le_refl _), Nat.sub_self]
  rfl
theorem get_mid (A : List α) (x : α) (B : List α) (n : Nat) (h : A.length = n) : (A ++ x :: B)[n]? = some x := by
  subst h
  rw [List.getElem?_append_right (Nat.le_refl _), Nat.sub_self]
  rfl
theorem swL_mid (A : List α) (x : α) (B : List α) (y : α) (C : List α) (i j : Nat) (hi : A.length = i) (hj : i + 1 + B.length = j) : swL (A ++ x :: (B ++ y :: C)) i j = A ++ y :: (B ++ x :: C) := by
  have e : A ++ x :: (B ++ y :: C) = (A ++ x :: B) ++ y :: C := by simp
  have h1 : (A ++ x :: (B ++ y :: C))[i]? = some x := get_mid _ _ _ _ hi
  have h2 : (A ++ x :: (B ++ y :: C))[j]? = some y := by rw [e]; exact get_mid _ _ _ _ (by simp; omega)
  unfold swL
  rw [h1, h2]
  show ((A ++ x :: (B ++ y :: C)).set i y).set j x = _
  rw [set_mid _ _ _ _ _ hi]
  have e2 : A ++ y :: (B ++ y :: C) = (A ++ y :: B) ++ y :: C := by simp
  rw [e2, set_mid _ _ _ _ _ (by simp; omega)]
  simp
theorem swL_next (A : List α) (x y : α) (C : List α) (i : Nat) (hi : A.length = i) : swL (A ++ x :: y :: C) i (i + 1) = A ++ y :: x :: C := by
  have := swL_mid A x [] y C i (i + 1) hi (by simp)
  simpa using this
theorem swL_comm (d : List α) (i j : Nat) : swL d i j = swL d j i := by
  unfold swL
  rcases h1 : d[i]? with _ | x <;> rcases h2 : d[j]? with _ | y <;> try rfl
  by_cases e : i = j
  · subst e
    rw [h1] at h2
    cases h2
    rfl
  · exact List.set_comm _ _ e
/-- a run of exchanges -/
theorem swL_run (A : List α) (s : List α) (B t C : List α) (k : Nat) (hk : k < s.length) (hl : s.length = t.length) (a b : Nat) (ha : A.length = a) (hb : a + s.length + B.length = b) :
    swL (A ++ (t.take k ++ s.drop k) ++ B ++ (s.take k ++ t.drop k) ++ C) (a + k) (b + k) = A ++ (t.take (k + 1) ++ s.drop (k + 1)) ++ B ++ (s.take (k + 1) ++ t.drop (k + 1)) ++ C := by
  have hk2 : k < t.length := by omega
  have e1 : s.drop k = s[k] :: s.drop (k + 1) := List.drop_eq_getElem_cons hk
  have e2 : t.drop k = t[k] :: t.drop (k + 1) := List.drop_eq_getElem_cons hk2
  have e3 : s.take (k + 1) = s.take k ++ [s[k]] := List.take_succ_eq_append_getElem hk
  have e4 : t.take (k + 1) = t.take k ++ [t[k]] := List.take_succ_eq_append_getElem hk2
  rw [e1, e2, e3, e4]
  have := swL_mid (A ++ t.take k) s[k] (s.drop (k + 1) ++ B ++ s.take k) t[k] (t.drop (k + 1) ++ C) (a + k) (b + k) (by simp; omega) (by simp; omega)
  simp only [List.append_assoc, List.cons_append, List.nil_append] at this ⊢
  exact this

variable {lt : α → α → Bool} {le : α → α → Prop}
theorem pw_last (tr : ∀ x y z, le x y → le y z → le x z) {l : List α} (h : l.Pairwise le) {x y : α} (hx : l.getLast? = some x) (hy : le x y) : ∀ z ∈ l, le z y := by
  intro z hz
  obtain ⟨p, rfl⟩ := List.getLast?_eq_some_iff.1 hx
  rcases List.mem_append.1 hz with h1 | h1
  · exact tr _ _ _ ((List.pairwise_append.1 h).2.2 z h1 x (by simp)) hy
  · rw [List.mem_singleton.1 h1]; exact hy
theorem pw_head (tr : ∀ x y z, le x y → le y z → le x z) {l : List α} (h : l.Pairwise le) {x y : α} (hy : l.head? = some y) (hx : le x y) : ∀ z ∈ l, le x z := by
  intro z hz
  cases l with
  | nil => cases hz
  | cons a l =>
    cases hy
    rcases List.mem_cons.1 hz with rfl | h1
    · exact hx
    · exact tr _ _ _ hx ((List.pairwise_cons.1 h).1 z h1)
theorem pw_both (tr : ∀ x y z, le x y → le y z → le x z) {u v : List α} (hu : u.Pairwise le) (hv : v.Pairwise le) (h : u = [] ∨ v = [] ∨ ∃ x y, u.getLast? = some x ∧ v.head? = some y ∧ le x y) : ∀ x ∈ u, ∀ y ∈ v, le x y := by
  intro x hx y hy
  rcases h with rfl | rfl | ⟨a, b, h1, h2, h3⟩
  · cases hx
  · cases hy
  · exact pw_head tr hv h2 (pw_last tr hu h1 h3 x hx) y hy
theorem merge_cut (tr : ∀ x y z, le x y → le y z → le x z) {u1 u2 v1 v2 : List α} (hU : (u1 ++ u2).Pairwise le) (hV : (v1 ++ v2).Pairwise le)
    (h1 : u1 = [] ∨ v2 = [] ∨ ∃ x y, u1.getLast? = some x ∧ v2.head? = some y ∧ le x y) (h2 : v1 = [] ∨ u2 = [] ∨ ∃ x y, v1.getLast? = some x ∧ u2.head? = some y ∧ le x y) :
    ∀ x ∈ u1 ++ v1, ∀ y ∈ u2 ++ v2, le x y := by
  obtain ⟨a1, a2, a3⟩ := List.pairwise_append.1 hU
  obtain ⟨b1, b2, b3⟩ := List.pairwise_append.1 hV
  intro x hx y hy
  rcases List.mem_append.1 hx with hx | hx <;> rcases List.mem_append.1 hy with hy | hy
  · exact a3 x hx y hy
  · exact pw_both tr a1 b2 h1 x hx y hy
  · exact pw_both tr b1 a2 h2 x hx y hy
  · exact b3 x hx y hy
/-- S is u and v, in order -/
def Mrg (le : α → α → Prop) (u v S : List α) : Prop := S.Perm (u ++ v) ∧ S.Pairwise le
theorem Mrg.one_left {u v : List α} (hu : v = []) (h : u.Pairwise le) : Mrg le u v u := by subst hu; exact ⟨by simp, h⟩
theorem Mrg.one_right {u v : List α} (hu : u = []) (h : v.Pairwise le) : Mrg le u v v := by subst hu; exact ⟨by simp, h⟩
theorem Mrg.join {u1 u2 v1 v2 S1 S2 : List α} (h1 : Mrg le u1 v1 S1) (h2 : Mrg le u2 v2 S2) (h : ∀ x ∈ u1 ++ v1, ∀ y ∈ u2 ++ v2, le x y) : Mrg le (u1 ++ u2) (v1 ++ v2) (S1 ++ S2) := by
  refine ⟨?_, List.pairwise_append.2 ⟨h1.2, h2.2, fun x hx y hy => h x (h1.1.mem_iff.1 hx) y (h2.1.mem_iff.1 hy)⟩⟩
  refine (h1.1.append h2.1).trans ?_
  simp only [List.append_assoc]
  refine List.Perm.append_left _ ?_
  rw [← List.append_assoc, ← List.append_assoc]
  exact List.Perm.append_right _ List.perm_append_comm
/-- one element goes into v -/
theorem Mrg.in_right {x : α} {v1 v2 : List α} (hv : (v1 ++ v2).Pairwise le) (h1 : ∀ y ∈ v1, le y x) (h2 : ∀ y ∈ v2, le x y) : Mrg le [x] (v1 ++ v2) (v1 ++ x :: v2) := by
  refine ⟨List.perm_middle, ?_⟩
  obtain ⟨a, b, c⟩ := List.pairwise_append.1 hv
  refine List.pairwise_append.2 ⟨a, List.pairwise_cons.2 ⟨h2, b⟩, fun y hy z hz => ?_⟩
  rcases List.mem_cons.1 hz with rfl | hz
  · exact h1 y hy
  · exact c y hy z hz
theorem Mrg.in_left {y : α} {u1 u2 : List α} (hu : (u1 ++ u2).Pairwise le) (h1 : ∀ x ∈ u1, le x y) (h2 : ∀ x ∈ u2, le y x) : Mrg le (u1 ++ u2) [y] (u1 ++ y :: u2) := by
  refine ⟨?_, (Mrg.in_right hu h1 h2).2⟩
  exact List.perm_middle.trans (List.perm_append_singleton _ _).symm
theorem Mrg.length {u v S : List α} (h : Mrg le u v S) : S.length = u.length + v.length := by rw [h.1.length_eq, List.length_append]

/-! ### blocks in order -/
inductive Chunks (le : α → α → Prop) (s : Nat) : List α → List α → Prop
  | last (l0 l : List α) : l.length ≤ s → l.Perm l0 → l.Pairwise le → Chunks le s l0 l
  | cons (c0 c l0 l : List α) : c.length = s → c.Perm c0 → c.Pairwise le → Chunks le s l0 l → Chunks le s (c0 ++ l0) (c ++ l)
/-- what stands ahead is done -/
def Ahead (le : α → α → Prop) (s : Nat) (D0 D : List α) : Prop := D.length = D0.length ∧ ∀ X0 X, Chunks le s X0 X → Chunks le s (D0 ++ X0) (D ++ X)
theorem Ahead.nil (s : Nat) : Ahead le s [] [] := ⟨rfl, fun _ _ h => h⟩
theorem Ahead.snoc {s : Nat} {D0 D c0 c : List α} (h : Ahead le s D0 D) (h1 : c.length = s) (h2 : c.Perm c0) (h3 : c.Pairwise le) : Ahead le s (D0 ++ c0) (D ++ c) :=
  ⟨by rw [List.length_append, List.length_append, h.1, h2.length_eq], fun X0 X hX => by
    rw [List.append_assoc, List.append_assoc]
    exact h.2 _ _ (.cons c0 c X0 X h1 h2 h3 hX)⟩
theorem Chunks.length {s : Nat} {d0 d : List α} (h : Chunks le s d0 d) : d.length = d0.length := by
  induction h with
  | last l0 l h1 h2 h3 => exact h2.length_eq
  | cons c0 c l0 l h1 h2 h3 h4 ih => rw [List.length_append, List.length_append, h2.length_eq, ih]
theorem Chunks.all {s : Nat} {d0 d : List α} (h : Chunks le s d0 d) (hl : d.length ≤ s) : d.Perm d0 ∧ d.Pairwise le := by
  cases h with
  | last l0 l h1 h2 h3 => exact ⟨h2, h3⟩
  | cons c0 c l0 l h1 h2 h3 h4 =>
    have e : l = [] := List.length_eq_zero_iff.1 (by rw [List.length_append] at hl; omega)
    subst e
    have e0 : l0 = [] := List.length_eq_zero_iff.1 h4.length.symm
    subst e0
    simp only [List.append_nil]
    exact ⟨h2, h3⟩
/-- the first block -/
theorem Chunks.first {s : Nat} {R0 R : List α} (h : Chunks le s R0 R) (hl : s < R.length) : ∃ U0 U T0 T, R0 = U0 ++ T0 ∧ R = U ++ T ∧ U.length = s ∧ U.Perm U0 ∧ U.Pairwise le ∧ Chunks le s T0 T := by
  cases h with
  | last l0 l h1 h2 h3 => omega
  | cons c0 c l0 l h1 h2 h3 h4 => exact ⟨c0, c, l0, l, rfl, rfl, h1, h2, h3, h4⟩
/-- what the elements of two blocks tell of each other -/
theorem fit_of {D0 U0 V0 R0 U V : List α} (h : (D0 ++ (U0 ++ (V0 ++ R0))).Pairwise (Fit lt le)) (hU : U.Perm U0) (hV : V.Perm V0) : ∀ x ∈ U, ∀ y ∈ V, Fit lt le x y := by
  intro x hx y hy
  have h1 := (List.pairwise_append.1 h).2.1
  exact (List.pairwise_append.1 h1).2.2 x (hU.mem_iff.1 hx) y (List.mem_append_left _ (hV.mem_iff.1 hy))
end
end Go.Sg
namespace Go.Sg
section
variable {α : Type} {lt : α → α → Bool} {le : α → α → Prop}
/-- a block that is put in order, one element behind the other: what stands there when i are in order and the next one is at place j -/
theorem ins_stop (tr : ∀ x y z, le x y → le y z → le x z) {S1 S2 : List α} {y : α} (hS : (S1 ++ S2).Pairwise le) (h2 : ∀ s ∈ S2, le y s) (h1 : S1 = [] ∨ ∃ x, S1.getLast? = some x ∧ le x y) : (S1 ++ y :: S2).Pairwise le := by
  obtain ⟨a, b, c⟩ := List.pairwise_append.1 hS
  have h3 : ∀ s ∈ S1, le s y := by
    rcases h1 with rfl | ⟨x, hx, hy⟩
    · intro s hs; cases hs
    · exact pw_last tr a hx hy
  exact (Mrg.in_right hS h3 h2).2
theorem perm_ins {S1 S2 l : List α} {y : α} (h : (S1 ++ S2).Perm l) : (S1 ++ y :: S2).Perm (l ++ [y]) :=
  List.perm_middle.trans ((List.Perm.cons y h).trans (List.perm_append_singleton y l).symm)
theorem split_last {l : List α} (h : l ≠ []) : ∃ p x, l = p ++ [x] := ⟨l.dropLast, l.getLast h, (List.dropLast_concat_getLast h).symm⟩
end
end Go.Sg
namespace Go.Sg
section
variable {α : Type}
theorem get_run1 (A : List α) (s : List α) (B t C : List α) (k : Nat) (hk : k < s.length) (hl : s.length = t.length) (a : Nat) (ha : A.length = a) :
    (A ++ (t.take k ++ s.drop k) ++ B ++ (s.take k ++ t.drop k) ++ C)[a + k]? = some s[k] := by
  have e1 : s.drop k = s[k] :: s.drop (k + 1) := List.drop_eq_getElem_cons hk
  have e2 : A ++ (t.take k ++ s.drop k) ++ B ++ (s.take k ++ t.drop k) ++ C = (A ++ t.take k) ++ s[k] :: (s.drop (k + 1) ++ B ++ (s.take k ++ t.drop k) ++ C) := by
    rw [e1]
    simp only [List.append_assoc, List.cons_append]
  rw [e2]
  exact get_mid _ _ _ _ (by rw [List.length_append, List.length_take]; omega)
theorem get_run2 (A : List α) (s : List α) (B t C : List α) (k : Nat) (hk : k < s.length) (hl : s.length = t.length) (a b : Nat) (ha : A.length = a) (hb : a + s.length + B.length = b) :
    (A ++ (t.take k ++ s.drop k) ++ B ++ (s.take k ++ t.drop k) ++ C)[b + k]? = some (t[k]'(by omega)) := by
  have hk2 : k < t.length := by omega
  have e1 : t.drop k = t[k] :: t.drop (k + 1) := List.drop_eq_getElem_cons hk2
  have e2 : A ++ (t.take k ++ s.drop k) ++ B ++ (s.take k ++ t.drop k) ++ C = (A ++ (t.take k ++ s.drop k) ++ B ++ s.take k) ++ t[k] :: (t.drop (k + 1) ++ C) := by
    rw [e1]
    simp only [List.append_assoc, List.cons_append]
  rw [e2]
  exact get_mid _ _ _ _ (by simp only [List.length_append, List.length_take, List.length_drop]; omega)
end
end Go.Sg
namespace Go.Sg
section
variable {α : Type} {lt : α → α → Bool} {le : α → α → Prop}
theorem take_le (tr : ∀ x y z, le x y → le y z → le x z) {V : List α} (hV : V.Pairwise le) {s : Nat} (hs : s < V.length) {x : α} (h : le V[s] x) : ∀ y ∈ V.take (s + 1), le y x := by
  have hp : (V.take (s + 1)).Pairwise le := hV.sublist (List.take_sublist _ _)
  rw [List.take_succ_eq_append_getElem hs] at hp ⊢
  exact pw_last tr hp (by rw [List.getLast?_append]; rfl) h
theorem drop_ge (tr : ∀ x y z, le x y → le y z → le x z) {V : List α} (hV : V.Pairwise le) {s : Nat} (hs : s < V.length) {x : α} (h : le x V[s]) : ∀ y ∈ V.drop s, le x y := by
  have hp : (V.drop s).Pairwise le := hV.sublist (List.drop_sublist _ _)
  rw [List.drop_eq_getElem_cons hs] at hp ⊢
  exact pw_head tr hp rfl h
/-- one element is carried up -/
theorem swL_up (A : List α) (x : α) (V1 R : List α) (t : Nat) (ht : t < V1.length) (k : Nat) (hk : A.length + t = k) :
    swL (A ++ (V1.take t ++ x :: V1.drop t) ++ R) k (k + 1) = A ++ (V1.take (t + 1) ++ x :: V1.drop (t + 1)) ++ R := by
  have e1 : V1.drop t = V1[t] :: V1.drop (t + 1) := List.drop_eq_getElem_cons ht
  have e2 : V1.take (t + 1) = V1.take t ++ [V1[t]] := List.take_succ_eq_append_getElem ht
  have e3 : A ++ (V1.take t ++ x :: V1.drop t) ++ R = (A ++ V1.take t) ++ x :: V1[t] :: (V1.drop (t + 1) ++ R) := by
    rw [e1]
    simp only [List.append_assoc, List.cons_append]
  rw [e3, swL_next _ _ _ _ k (by rw [List.length_append, List.length_take]; omega), e2]
  simp only [List.append_assoc, List.cons_append, List.nil_append]
theorem get_up (A : List α) (x : α) (V1 R : List α) (t : Nat) (ht : t < V1.length) (k : Nat) (hk : A.length + t = k) :
    (A ++ (V1.take t ++ x :: V1.drop t) ++ R)[k]? = some x ∧ (A ++ (V1.take t ++ x :: V1.drop t) ++ R)[k + 1]? = some V1[t] := by
  have e1 : V1.drop t = V1[t] :: V1.drop (t + 1) := List.drop_eq_getElem_cons ht
  have e3 : A ++ (V1.take t ++ x :: V1.drop t) ++ R = (A ++ V1.take t) ++ x :: (V1[t] :: (V1.drop (t + 1) ++ R)) := by
    rw [e1]
    simp only [List.append_assoc, List.cons_append]
  have e4 : A ++ (V1.take t ++ x :: V1.drop t) ++ R = (A ++ V1.take t ++ [x]) ++ V1[t] :: (V1.drop (t + 1) ++ R) := by
    rw [e3]
    simp only [List.append_assoc, List.cons_append, List.nil_append]
  exact ⟨by rw [e3]; exact get_mid _ _ _ _ (by rw [List.length_append, List.length_take]; omega), by rw [e4]; exact get_mid _ _ _ _ (by simp only [List.length_append, List.length_take, List.length_cons, List.length_nil]; omega)⟩
/-- one element is carried down -/
theorem swL_down (A U1 : List α) (y : α) (R : List α) (t : Nat) (ht : t < U1.length) (k : Nat) (hk : A.length + t = k) :
    swL (A ++ (U1.take (t + 1) ++ y :: U1.drop (t + 1)) ++ R) (k + 1) k = A ++ (U1.take t ++ y :: U1.drop t) ++ R := by
  have e1 : U1.drop t = U1[t] :: U1.drop (t + 1) := List.drop_eq_getElem_cons ht
  have e2 : U1.take (t + 1) = U1.take t ++ [U1[t]] := List.take_succ_eq_append_getElem ht
  have e3 : A ++ (U1.take (t + 1) ++ y :: U1.drop (t + 1)) ++ R = (A ++ U1.take t) ++ U1[t] :: y :: (U1.drop (t + 1) ++ R) := by
    rw [e2]
    simp only [List.append_assoc, List.cons_append, List.nil_append]
  rw [swL_comm, e3, swL_next _ _ _ _ k (by rw [List.length_append, List.length_take]; omega), e1]
  simp only [List.append_assoc, List.cons_append]
theorem get_down (A U1 : List α) (y : α) (R : List α) (t : Nat) (ht : t < U1.length) (k : Nat) (hk : A.length + t = k) :
    (A ++ (U1.take (t + 1) ++ y :: U1.drop (t + 1)) ++ R)[k]? = some U1[t] ∧ (A ++ (U1.take (t + 1) ++ y :: U1.drop (t + 1)) ++ R)[k + 1]? = some y := by
  have e2 : U1.take (t + 1) = U1.take t ++ [U1[t]] := List.take_succ_eq_append_getElem ht
  have e3 : A ++ (U1.take (t + 1) ++ y :: U1.drop (t + 1)) ++ R = (A ++ U1.take t) ++ U1[t] :: (y :: (U1.drop (t + 1) ++ R)) := by
    rw [e2]
    simp only [List.append_assoc, List.cons_append, List.nil_append]
  have e4 : A ++ (U1.take (t + 1) ++ y :: U1.drop (t + 1)) ++ R = (A ++ U1.take t ++ [U1[t]]) ++ y :: (U1.drop (t + 1) ++ R) := by
    rw [e3]
    simp only [List.append_assoc, List.cons_append, List.nil_append]
  exact ⟨by rw [e3]; exact get_mid _ _ _ _ (by rw [List.length_append, List.length_take]; omega), by rw [e4]; exact get_mid _ _ _ _ (by simp only [List.length_append, List.length_take, List.length_cons, List.length_nil]; omega)⟩
theorem get_in (A V R : List α) (s : Nat) (hs : s < V.length) (k : Nat) (hk : A.length + s = k) : (A ++ V ++ R)[k]? = some V[s] := by
  subst hk
  rw [List.getElem?_append_left (by rw [List.length_append]; omega), List.getElem?_append_right (by omega), Nat.add_sub_cancel_left, List.getElem?_eq_getElem hs]
end
end Go.Sg
namespace Go.Sg
section
variable {α : Type} {le : α → α → Prop}
/-- where two blocks are cut, so that what is ahead of the cut is no greater than what is behind it -/
theorem cut_ok (tr : ∀ x y z, le x y → le y z → le x z) {U V : List α} (hU : U.Pairwise le) (hV : V.Pairwise le) {a m b mid st lo hi : Nat} (hu : a + U.length = m) (hv : m + V.length = b) (_ : a ≤ st) (_ : st ≤ mid) (_ : mid + m ≤ st + b) (_ : st ≤ m)
    (hlo : lo = a ∨ lo + b = mid + m) (hhi : hi = mid ∨ hi = m)
    (h1 : st = lo ∨ ∃ x y, 0 < st - a ∧ U[st - a - 1]? = some x ∧ V[mid - st]? = some y ∧ le x y)
    (h2 : st = hi ∨ ∃ x y, 0 < mid - st ∧ V[mid - st - 1]? = some x ∧ U[st - a]? = some y ∧ le x y) :
    ∀ x ∈ U.take (st - a) ++ V.take (mid - st), ∀ y ∈ U.drop (st - a) ++ V.drop (mid - st), le x y := by
  refine merge_cut tr (by rw [List.take_append_drop]; exact hU) (by rw [List.take_append_drop]; exact hV) ?_ ?_
  · rcases h1 with h1 | ⟨x, y, h0, h3, h4, h5⟩
    · rcases hlo with h6 | h6
      · left
        rw [show st - a = 0 by omega, List.take_zero]
      · right; left
        rw [List.drop_of_length_le (by omega)]
    · right; right
      refine ⟨x, y, ?_, ?_, h5⟩
      · obtain ⟨hl, hx⟩ := List.getElem?_eq_some_iff.1 h3
        rw [List.getLast?_eq_getElem?, List.length_take, Nat.min_eq_left (by omega), List.getElem?_take, if_pos (by omega)]
        exact h3
      · rw [List.head?_drop]
        exact h4
  · rcases h2 with h2 | ⟨x, y, h0, h3, h4, h5⟩
    · rcases hhi with h6 | h6
      · left
        rw [show mid - st = 0 by omega, List.take_zero]
      · right; left
        rw [List.drop_of_length_le (by omega)]
    · right; right
      refine ⟨x, y, ?_, ?_, h5⟩
      · obtain ⟨hl, hx⟩ := List.getElem?_eq_some_iff.1 h3
        rw [List.getLast?_eq_getElem?, List.length_take, Nat.min_eq_left (by omega), List.getElem?_take, if_pos (by omega)]
        exact h3
      · rw [List.head?_drop]
        exact h4
end
end Go.Sg
namespace Go.Sg
section
variable {α : Type} {le : α → α → Prop}
/-- the first block, whole -/
theorem Chunks.full {s : Nat} {R0 R : List α} (h : Chunks le s R0 R) (hl : s ≤ R.length) (hs : 0 < s) : ∃ U0 U T0 T, R0 = U0 ++ T0 ∧ R = U ++ T ∧ U.length = s ∧ U.Perm U0 ∧ U.Pairwise le ∧ Chunks le s T0 T := by
  rcases Nat.lt_or_ge s R.length with h1 | h1
  · exact h.first h1
  · obtain ⟨h2, h3⟩ := h.all h1
    exact ⟨R0, R, [], [], by simp, by simp, by omega, h2, h3, .last [] [] (by simp) (List.Perm.refl _) List.Pairwise.nil⟩
theorem Chunks.nil {s : Nat} : Chunks le s ([] : List α) [] := .last [] [] (by simp) (List.Perm.refl _) List.Pairwise.nil
end
end Go.Sg
end
section

/-
  Who goes where: plain facts of items, and of the order in which they are dealt.
-/
namespace Go.Sg
/-- An item of deal: who it is, how deep it may lie. -/
abbrev Di := Int × Int
/-- is an item dealt ahead of another one? -/
def ltD (x y : Di) : Bool := if x.2 < 0 ∧ y.2 < 0 then false else if x.2 ≠ y.2 then decide (y.2 < x.2) else decide (x.1 < y.1)
def getD' (l : List Di) (i : Int) : Di := l.getD i.toNat (0, -1)
/-- .. by their places -/
def ltO (l : List Di) (i j : Int) : Bool := ltD (getD' l i) (getD' l j)
def leO (l : List Di) (i j : Int) : Prop := ltO l i j = true ∨ (ltO l j i = false ∧ i ≤ j)
theorem ltD_iff {x y : Di} : ltD x y = true ↔ ¬ (x.2 < 0 ∧ y.2 < 0) ∧ (y.2 < x.2 ∨ (x.2 = y.2 ∧ x.1 < y.1)) := by
  unfold ltD
  split
  · simp [*]
  · split
    · simp only [decide_eq_true_eq]; omega
    · simp only [decide_eq_true_eq]; omega
theorem ltD_false {x y : Di} : ltD x y = false ↔ (x.2 < 0 ∧ y.2 < 0) ∨ (x.2 < y.2 ∨ (x.2 = y.2 ∧ y.1 ≤ x.1)) := by
  rw [← Bool.not_eq_true, ltD_iff]
  omega
theorem leO_iff {l : List Di} {i j : Int} : leO l i j ↔ ((getD' l j).2 < 0 ∧ 0 ≤ (getD' l i).2) ∨ ((getD' l i).2 < 0 ∧ (getD' l j).2 < 0 ∧ i ≤ j) ∨ (0 ≤ (getD' l i).2 ∧ 0 ≤ (getD' l j).2 ∧ ((getD' l j).2 < (getD' l i).2 ∨ ((getD' l i).2 = (getD' l j).2 ∧ ((getD' l i).1 < (getD' l j).1 ∨ ((getD' l i).1 = (getD' l j).1 ∧ i ≤ j))))) := by
  unfold leO ltO
  rw [ltD_iff, ltD_false]
  generalize getD' l i = x
  generalize getD' l j = y
  omega
theorem leO_trans (l : List Di) (i j k : Int) (h : leO l i j) (h' : leO l j k) : leO l i k := by
  rw [leO_iff] at *
  generalize getD' l i = x at *
  generalize getD' l j = y at *
  generalize getD' l k = z at *
  omega
theorem leO_total (l : List Di) (i j : Int) : leO l i j ∨ leO l j i := by
  rw [leO_iff, leO_iff]
  generalize getD' l i = x
  generalize getD' l j = y
  omega
theorem leO_anti {l : List Di} {i j : Int} (h : leO l i j) (h' : leO l j i) : i = j := by
  rw [leO_iff] at *
  generalize getD' l i = x at *
  generalize getD' l j = y at *
  omega
/-- the places as they stand at first -/
def idx (n : Nat) : List Int := (List.range n).map (fun i : Nat => (i : Int))
theorem idx_len (n : Nat) : (idx n).length = n := by simp [idx]
theorem idx_mem {n : Nat} {i : Int} : i ∈ idx n ↔ 0 ≤ i ∧ i < n := by
  unfold idx
  rw [List.mem_map]
  constructor
  · rintro ⟨k, hk, rfl⟩
    have := List.mem_range.1 hk
    omega
  · intro h
    exact ⟨i.toNat, List.mem_range.2 (by omega), by omega⟩
theorem idx_nodup (n : Nat) : (idx n).Nodup := List.Pairwise.map (R := (· ≠ ·)) _ (fun a b h => fun e => h (by omega)) (List.nodup_range (n := n))
theorem idx_up (n : Nat) : (idx n).Pairwise (· < ·) := List.Pairwise.map (R := (· < ·)) _ (fun a b h => by omega) (List.pairwise_lt_range (n := n))
theorem fit_idx (l : List Di) (n : Nat) : (idx n).Pairwise (Fit (ltO l) (leO l)) := (idx_up n).imp fun {i j} h => by
  constructor
  · intro e; exact .inl e
  · intro e; exact .inr ⟨e, by omega⟩
/-- the order in which items are dealt -/
def ordD (l : List Di) : List Int := (idx l.length).mergeSort (fun i j => !ltO l j i && (ltO l i j || decide (i ≤ j)))
theorem leO_bool (l : List Di) (i j : Int) : (!ltO l j i && (ltO l i j || decide (i ≤ j))) = true ↔ leO l i j := by
  rw [leO_iff]
  rw [Bool.and_eq_true, Bool.or_eq_true, Bool.not_eq_true', decide_eq_true_eq]
  unfold ltO
  rw [ltD_iff, ltD_false]
  generalize getD' l i = x
  generalize getD' l j = y
  omega
theorem ordD_perm (l : List Di) : (ordD l).Perm (idx l.length) := List.mergeSort_perm _ _
theorem ordD_sorted (l : List Di) : (ordD l).Pairwise (leO l) := by
  have h := List.pairwise_mergeSort (le := fun i j => !ltO l j i && (ltO l i j || decide (i ≤ j))) (fun a b c h1 h2 => (leO_bool l a c).2 (leO_trans l a b c ((leO_bool l a b).1 h1) ((leO_bool l b c).1 h2))) (fun a b => by
    rcases leO_total l a b with h | h
    · rw [(leO_bool l a b).2 h]; rfl
    · rw [(leO_bool l b a).2 h]; simp) (idx l.length)
  exact h.imp fun {a b} h => (leO_bool l a b).1 h
theorem ordD_len (l : List Di) : (ordD l).length = l.length := by rw [(ordD_perm l).length_eq, idx_len]
/-- whoever puts them in order so -/
theorem ordD_of {l : List Di} {T : List Int} (hp : T.Perm (idx l.length)) (hs : T.Pairwise (leO l)) : T = ordD l :=
  List.Perm.eq_of_pairwise (fun a b _ _ h1 h2 => leO_anti h1 h2) hs (ordD_sorted l) (hp.trans (ordD_perm l).symm)
end Go.Sg
end
