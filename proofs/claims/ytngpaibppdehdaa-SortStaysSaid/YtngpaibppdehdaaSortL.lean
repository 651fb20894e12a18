/-
  What a network makes of words, and words in order: plain facts.
-/
import Derived.Test.YtngpaibppdehdaaNetL
import Derived.Test.YtngpaibppdehdaaPure1
namespace Go.Sg
open Go Go.RowKit
/-- ys are the words xs in order -/
def SortOf (xs ys : List Int) : Prop := ys.Pairwise (fun a b => a ≤ b) ∧ ys.Perm xs
theorem SortOf.uniq {xs ys zs : List Int} (h : SortOf xs ys) (k : SortOf xs zs) : ys = zs :=
  List.Perm.eq_of_pairwise (fun _ _ _ _ h1 h2 => Int.le_antisymm h1 h2) h.1 k.1 (h.2.trans k.2.symm)
theorem SortOf.perm {xs ys zs : List Int} (h : SortOf xs ys) (hp : xs.Perm zs) : SortOf zs ys := ⟨h.1, h.2.trans hp⟩
theorem SortOf.self {xs : List Int} (h : xs.Pairwise (fun a b => a ≤ b)) : SortOf xs xs := ⟨h, .refl _⟩
theorem SortOf.again {xs ys zs : List Int} (h : SortOf xs ys) (k : SortOf ys zs) : zs = ys := k.uniq (SortOf.self h.1)
theorem SortOf.length {xs ys : List Int} (h : SortOf xs ys) : ys.length = xs.length := h.2.length_eq
theorem SortOf.words {xs ys : List Int} (h : SortOf xs ys) (hw : ∀ x ∈ xs, Word x) : ∀ x ∈ ys, Word x := fun x hx => hw x (h.2.mem_iff.1 hx)
def netOf (t : Nat) (xs : List Int) : List Int := cxs Int.toNat xs (netP (2 ^ t) t)
theorem SortOf.net {t : Nat} {xs : List Int} (hw : ∀ x ∈ xs, Word x) (hl : xs.length = 2 ^ t) : SortOf xs (netOf t xs) := by
  have hp := cxs_perm Int.toNat (netP (2 ^ t) t) xs
  refine ⟨?_, hp⟩
  refine (net_sorted Int.toNat hl).imp_of_mem ?_
  intro a b ha hb h
  have h1 := hw a (hp.mem_iff.1 ha)
  have h2 := hw b (hp.mem_iff.1 hb)
  unfold Word at h1 h2
  omega
theorem sw1_mk {a b : Int} (c : Bool) (ha : Word a) (hb : Word b) : sw1 (mk c) a b = if c then b else a := by
  cases c
  · simp only [sw1, mk, Bool.false_eq_true, if_false]; rw [an_zero, xr_zero ha]
  · simp only [sw1, mk, if_true]; rw [an_max (xr_word ha hb), xr_comm' a b, xr_self_left hb ha]
/-- one step of the network, as the program takes it: by a mask, both are stored -/
theorem cx_step {xs : List Int} {i j : Nat} {up : Bool} (hw : ∀ x ∈ xs, Word x) (hi : i < xs.length) (hj : j < xs.length) :
    (xs.set i (sw1 (if up then lm xs[j] xs[i] else lm xs[i] xs[j]) xs[i] xs[j])).set j (pk (if up then lm xs[j] xs[i] else lm xs[i] xs[j]) xs[i] xs[j]) = cx Int.toNat xs (i, j, up) := by
  have h1 := hw _ (List.getElem_mem hi)
  have h2 := hw _ (List.getElem_mem hj)
  rw [cx_at Int.toNat (p := (i, j, up)) hi hj]
  have hm : (if up then lm xs[j] xs[i] else lm xs[i] xs[j]) = mk (decide (if up then xs[j] < xs[i] else xs[i] < xs[j])) := by cases up <;> rfl
  have hk : (if up then xs[j].toNat < xs[i].toNat else xs[i].toNat < xs[j].toNat) ↔ (if up then xs[j] < xs[i] else xs[i] < xs[j]) := by
    unfold Word at h1 h2
    cases up
    · simp only [Bool.false_eq_true, if_false]
      omega
    · simp only [if_true]
      omega
  show _ = if (if up then xs[j].toNat < xs[i].toNat else xs[i].toNat < xs[j].toNat) then (xs.set i xs[j]).set j xs[i] else xs
  rw [hm, sw1_mk _ h1 h2, pk_mk _ h1 h2]
  by_cases h : (if up then xs[j] < xs[i] else xs[i] < xs[j])
  · rw [if_pos (hk.2 h), if_pos (decide_eq_true h), if_pos (decide_eq_true h)]
  · rw [if_neg (fun h2 => h (hk.1 h2)), if_neg (by rw [decide_eq_false h]; exact Bool.false_ne_true), if_neg (by rw [decide_eq_false h]; exact Bool.false_ne_true), List.set_getElem_self, List.set_getElem_self]
end Go.Sg
