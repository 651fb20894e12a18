/-
  What a law's row asks behind a call that answers true and leaves all old memory as it was: whatever the parameters' types.
-/
import Derived.WalkKit
import Derived.ProofKit
import Derived.OpenShut
namespace Go.Sg
open Go Go.ChangeShapes Go.WideShapes Go.ChangeAt Go.RowKit

theorem trodAll_stays {H : Type} {enc : TypeId × Value → H} {P : Program} (hl : laidOutB P = true) {W W' : World} (hb : Below W.heap.size W W') :
    ∀ (ts : List TypeId) (vs : List Value) (ds : List (DataW H)) (ps : List MemPlace), (∀ t ∈ ts, P.readableRec t = true ∧ t < P.types.size) →
      DataW.TrodAll enc P W 0 (fun _ => true) true ts vs ds ps → (∀ x ∈ ps, x.block < W.heap.size) →
      DataW.TrodAll enc P W' 0 (fun b => decide (b < W.heap.size)) true ts vs ds ps := by
  intro ts
  induction ts with
  | nil =>
    intro vs ds ps _ h _
    obtain ⟨rfl, rfl, rfl⟩ := trodAll_nil h
    exact trodAll_mk0
  | cons t ts ih =>
    intro vs ds ps ht h hlt
    obtain ⟨v, vs', d, ds', p, q, rfl, rfl, rfl, h0, r0⟩ := trodAll_cons h
    obtain ⟨h1, h2⟩ := ht t (List.mem_cons_self ..)
    exact trodAll_cons_mk (Below.trod hl h1 h2 h0 hb (fun x hx => hlt x (List.mem_append_left _ hx)))
      (ih vs' ds' q (fun u hu => ht u (List.mem_cons_of_mem _ hu)) r0 (fun x hx => hlt x (List.mem_append_right _ hx)))

/-- The answer true, and nothing that was there has changed. -/
theorem law_post {H : Type} {enc : TypeId × Value → H} {P : Program} {f : Func} {s : ChangeSpec} {W W' : World} {args : Array Value} {ds gs : List (DataW H)} {before : List MemPlace} {tb : TypeId}
    (hW : DataW.Whole enc P f.params.toList s.vars false W args.toList ds gs before) (hl : laidOutB P = true) (hts : ∀ t ∈ f.params.toList, P.readableRec t = true ∧ t < P.types.size)
    (hv : s.vars = []) (hr : f.resultTypes = #[tb]) (htb : P.underlying tb = some .bool)
    (hspec : s.fn H (ds ++ gs) = { results := [.lit (.bool true)], args := ds, vars := [] }) (hb : Below W.heap.size W W') :
    s.post enc P f false true false false W args (.bool true) W' := by
  have hlt : ∀ p ∈ before, p.block < W.heap.size := fun p hp => hW.lt p hp
  have hW0 := hW
  obtain ⟨p, q, hA, hV, rfl, hz, hn⟩ := hW
  have hq : gs = [] ∧ q = [] := by
    rw [hv] at hV
    cases gs with
    | nil => exact ⟨rfl, hV⟩
    | cons _ _ => exact hV.elim
  obtain ⟨rfl, rfl⟩ := hq
  refine ⟨ds, [], p ++ [], [], p, [], hW0, ?_, ?_, ?_, hb.frame _, fun h => by cases h⟩
  · rw [hspec, hr]
    exact trodAll_cons_mk (shut_bool htb _) trodAll_mk0
  · rw [hspec]
    exact trodAll_stays hl hb _ _ _ _ hts hA (fun x hx => hlt x (List.mem_append_left _ hx))
  · rw [hspec, hv]
    rfl

/-! ### Arguments that are slices -/
/-- What a walk is told of a slice of whole numbers that came in. -/
def SlI (k : IntKind) (w : World) (v : Value) (zs : List Int) : Prop :=
  (zs = [] ∧ ∃ a cap, v = .slice a 0 cap) ∨
  (zs ≠ [] ∧ ∃ b off cap, v = .slice (some ⟨b, off, none⟩) zs.length cap ∧ zs.length ≤ cap ∧ cap ≤ maxLen ∧ b < w.heap.size ∧
    (∀ i (h : i < zs.length), w.cell? ⟨b, off + i, none⟩ = some (.int k zs[i])) ∧ ∀ n ∈ zs, (Lit.int k n).wf = true)

theorem open_SlI {H : Type} {enc : TypeId × Value → H} {P : Program} {W : World} {base : Nat} {k : IntKind} {t e : TypeId} (ht : P.underlying t = some (.slice e)) (he : P.underlying e = some (.int k)) (hc : P.cellsOf e = 1)
    {v : Value} {d : DataW H} {p : List MemPlace} (hv : Value.okWide P W .any base t v) (h : DataW.Trod enc P W 0 (fun _ => true) true t v d p) : ∃ zs, SlI k W v zs := by
  obtain ⟨a0, len, cap, rfl⟩ := okWide_slice ht hv
  obtain ⟨fuel, hf⟩ := h
  rcases open_ints ht he hc hf with ⟨hcs, _⟩ | ⟨x, l, c, zs, hcs, _, hl, hm, hz, _, hcell, hwz⟩
  · simp [Value.cells] at hcs
    obtain ⟨rfl, rfl, rfl⟩ := hcs
    exact ⟨[], .inl ⟨rfl, none, 0, rfl⟩⟩
  · simp [Value.cells] at hcs
    obtain ⟨rfl, rfl, rfl⟩ := hcs
    have hz : zs.length = cap := by simpa using hz
    by_cases h0 : len = 0
    · subst h0
      exact ⟨[], .inl ⟨rfl, some x, cap, rfl⟩⟩
    · have hlt : 0 < zs.length := by omega
      obtain ⟨b, off, spot⟩ := x
      have h1 := hcell 0 hlt
      have hs : spot = none := by
        cases spot with
        | none => rfl
        | some s =>
          exfalso
          simp [World.cell?, Addr.add] at h1
          split at h1 <;> simp at h1
      subst hs
      have hb : b < W.heap.size := by
        have := World.block_lt_of_cell? W _ h1
        simpa [Addr.add] using this
      have hadd : ∀ i, (⟨b, off, none⟩ : Addr).add i = ⟨b, off + i, none⟩ := fun i => by unfold Addr.add; split <;> simp_all
      refine ⟨zs.take len, .inr ⟨?_, b, off, cap, ?_, ?_, hm, hb, ?_, ?_⟩⟩
      · intro e0
        have : (zs.take len).length = 0 := by rw [e0]; rfl
        rw [List.length_take] at this
        omega
      · rw [List.length_take, Nat.min_eq_left (by omega)]
      · rw [List.length_take]; omega
      · intro i hi
        rw [List.length_take] at hi
        have := hcell i (by omega)
        rw [hadd] at this
        rw [this, List.getElem_take]
        simp [List.getD, show i < zs.length by omega]
      · intro n hn
        exact hwz n (List.mem_of_mem_take hn)
end Go.Sg
