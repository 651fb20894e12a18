/-
  Who goes first: plain facts of items, their order, and who is taken away.
-/
import Derived.Test.YtmnnfhplgepiaaaStabL
namespace Go.Sg
/-- An item: its cell, its rank; is its time over? -/
abbrev It := Int × Int × Bool
def keyI (x : It) : Int := if x.2.2 then x.2.1 % 4611686018427387904 else x.2.1 % 4611686018427387904 + 4611686018427387904
def ltI (x y : It) : Bool := decide (keyI x < keyI y) || (decide (keyI x = keyI y) && decide (x.1 < y.1))
def leI (x y : It) : Prop := ltI y x = false
theorem ltI_iff {x y : It} : ltI x y = true ↔ keyI x < keyI y ∨ keyI x = keyI y ∧ x.1 < y.1 := by
  unfold ltI
  simp
theorem leI_iff {x y : It} : leI x y ↔ keyI x < keyI y ∨ keyI x = keyI y ∧ x.1 ≤ y.1 := by
  unfold leI
  rw [← Bool.not_eq_true, ltI_iff]
  omega
theorem leI_trans (x y z : It) (h : leI x y) (k : leI y z) : leI x z := by
  rw [leI_iff] at h k ⊢
  omega
theorem leI_total (x y : It) : leI x y ∨ leI y x := by
  rw [leI_iff, leI_iff]
  omega
theorem leI_refl (x : It) : leI x x := by rw [leI_iff]; omega
theorem leI_anti {x y : It} (h : leI x y) (k : leI y x) : x.1 = y.1 ∧ keyI x = keyI y := by
  rw [leI_iff] at h k
  omega
theorem fitI (x y : It) : Fit ltI leI x y := by
  refine ⟨fun h => ?_, fun h => h⟩
  rw [leI_iff]
  rw [ltI_iff] at h
  omega
def srtI (l : List It) : List It := l.mergeSort (fun x y => !ltI y x)
theorem srtI_perm (l : List It) : (srtI l).Perm l := List.mergeSort_perm _ _
theorem srtI_sorted (l : List It) : (srtI l).Pairwise leI := by
  have h := List.pairwise_mergeSort (le := fun x y : It => !ltI y x) (fun a b c h1 h2 => by
    have := leI_trans a b c (by unfold leI; simpa using h1) (by unfold leI; simpa using h2)
    unfold leI at this
    simpa using this) (fun a b => by
    have := leI_total a b
    unfold leI at this
    simpa using this) l
  exact h.imp (fun h => by unfold leI; simpa using h)
theorem srtI_len (l : List It) : (srtI l).length = l.length := (srtI_perm l).length_eq
/-- lists in order of the same items have the same cells -/
theorem cells_uniq : ∀ {S T : List It}, S.Pairwise leI → T.Pairwise leI → S.Perm T → S.map (·.1) = T.map (·.1)
  | [], T, _, _, h => by rw [h.nil_eq]
  | s :: S, [], _, _, h => by cases h.eq_nil
  | s :: S, t :: T, hS, hT, h => by
    obtain ⟨s1, s2⟩ := List.pairwise_cons.1 hS
    obtain ⟨t1, t2⟩ := List.pairwise_cons.1 hT
    have h1 : leI s t := by
      rcases List.mem_cons.1 (h.mem_iff.2 (List.mem_cons_self : t ∈ t :: T)) with e | e
      · rw [e]; exact leI_refl _
      · exact s1 t e
    have h2 : leI t s := by
      rcases List.mem_cons.1 (h.mem_iff.1 (List.mem_cons_self : s ∈ s :: S)) with e | e
      · rw [e]; exact leI_refl _
      · exact t1 s e
    obtain ⟨e1, e2⟩ := leI_anti h1 h2
    -- t stands among S, or is s
    by_cases e : s = t
    · subst e
      rw [List.map_cons, List.map_cons, cells_uniq s2 t2 ((List.perm_cons s).1 h)]
    · have hm : t ∈ S := by
        rcases List.mem_cons.1 (h.mem_iff.2 (List.mem_cons_self : t ∈ t :: T)) with e' | e'
        · exact absurd e'.symm e
        · exact e'
      obtain ⟨A, B, rfl⟩ := List.append_of_mem hm
      -- T holds, in order, A with s ahead, and B
      have hp : (A ++ s :: B).Perm T := by
        have q : (s :: (A ++ t :: B)).Perm (t :: (A ++ s :: B)) := by
          refine (List.Perm.cons s List.perm_middle).trans ?_
          refine (List.Perm.swap t s (A ++ B)).trans ?_
          exact List.Perm.cons t List.perm_middle.symm
        exact (List.perm_cons t).1 (q.symm.trans h)
      have hpw : (A ++ s :: B).Pairwise leI := by
        obtain ⟨a, b, c⟩ := List.pairwise_append.1 s2
        obtain ⟨b1, b2⟩ := List.pairwise_cons.1 b
        refine List.pairwise_append.2 ⟨a, List.pairwise_cons.2 ⟨fun z hz => leI_trans _ _ _ h1 (b1 z hz), b2⟩, fun x hx y hy => ?_⟩
        rcases List.mem_cons.1 hy with rfl | hy
        · exact leI_trans _ _ _ (c x hx t List.mem_cons_self) h2
        · exact c x hx y (List.mem_cons_of_mem _ hy)
      have ih := cells_uniq hpw t2 hp
      rw [List.map_cons, List.map_cons, ← ih, e1]
      simp [e1]
termination_by S => S.length
def cntE (l : List It) : Nat := l.countP (·.2.2)
theorem cntE_le (l : List It) : cntE l ≤ l.length := List.countP_le_length
def wrapI (n : Int) : Int := (n + 9223372036854775808) % 18446744073709551616 - 9223372036854775808
def manyI (res exp cap batch : Int) : Int := max (min (max (wrapI (res - cap)) exp) batch) 0
/-- how many are taken away of these -/
def goI (l : List It) (cap batch : Int) : Nat := (min (manyI l.length (cntE l) cap batch) l.length).toNat
def victI (l : List It) (cap batch : Int) : List Int := ((srtI l).take (goI l cap batch)).map (·.1)
theorem goI_le (l : List It) (cap batch : Int) : goI l cap batch ≤ l.length := by unfold goI; omega
theorem victI_len (l : List It) (cap batch : Int) : (victI l cap batch).length = goI l cap batch := by
  unfold victI
  rw [List.length_map, List.length_take, srtI_len]
  have := goI_le l cap batch
  omega
/-- whoever is put in order -/
theorem vict_of {l S : List It} (hS : S.Pairwise leI) (hp : S.Perm l) (n : Nat) : (S.take n).map (·.1) = ((srtI l).take n).map (·.1) := by
  rw [List.map_take, List.map_take, cells_uniq hS (srtI_sorted l) (hp.trans (srtI_perm l).symm)]
/-- who goes stands ahead of who stays -/
theorem vict_ahead {l : List It} {n : Nat} {x y : It} (hx : x ∈ (srtI l).take n) (hy : y ∈ (srtI l).drop n) : leI x y := by
  have h := srtI_sorted l
  rw [← List.take_append_drop n (srtI l)] at h
  exact (List.pairwise_append.1 h).2.2 x hx y hy
theorem vict_perm {l k : List It} (h : l.Perm k) (cap batch : Int) : victI l cap batch = victI k cap batch := by
  unfold victI
  have h1 : goI l cap batch = goI k cap batch := by
    unfold goI cntE
    rw [h.length_eq, h.countP_eq]
  rw [h1]
  exact vict_of (srtI_sorted l) ((srtI_perm l).trans h) _
end Go.Sg
