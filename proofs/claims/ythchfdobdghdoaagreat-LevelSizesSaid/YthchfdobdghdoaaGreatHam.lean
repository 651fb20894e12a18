/-
  Joined texts: Row, Sl.
-/
import Derived.WalkKit
import Derived.ProofKit
import Derived.OpenShut
set_option linter.unusedVariables false
set_option linter.unusedSimpArgs false
set_option linter.unusedSectionVars false
set_option linter.unnecessarySimpa false
section

/-
  What a law's row asks behind a call that answers true and leaves all old memory as it was: whatever the parameters' types.
-/
namespace Go.Sg
open Go Go.ChangeShapes Go.WideShapes Go.ChangeAt Go.RowKit

theorem trodAll_stays {H : Type} {enc : TypeId × Value → H} {P : Program} (hl : laidOutB P = true) {W W' : World} (hb : Below W.heap.size W W') :
    ∀ (ts : List TypeId) (vs : List Value) (ds : List (DataW H)) (ps : List MemPlace), (∀ t ∈ ts, P.readableRec t = true ∧ t < P.types.size) →
      DataW.TrodAll enc P W 0 (fun _ => true) true ts vs ds ps → (∀ x ∈ ps, x.block < W.heap.size) →
      DataW.TrodAll enc P W' 0 (fun b => decide (b < W.heap.size)) true ts vs ds ps := by
  intro ts
  induction ts with
  | nil =>
    intro vs ds ps _ h _
    obtain ⟨rfl, rfl, rfl⟩ := trodAll_nil h
    exact trodAll_mk0
  | cons t ts ih =>
    intro vs ds ps ht h hlt
    obtain ⟨v, vs', d, ds', p, q, rfl, rfl, rfl, h0, r0⟩ := trodAll_cons h
    obtain ⟨h1, h2⟩ := ht t (List.mem_cons_self ..)
    exact trodAll_cons_mk (Below.trod hl h1 h2 h0 hb (fun x hx => hlt x (List.mem_append_left _ hx)))
      (ih vs' ds' q (fun u hu => ht u (List.mem_cons_of_mem _ hu)) r0 (fun x hx => hlt x (List.mem_append_right _ hx)))

/-- The answer true, and nothing that was there has changed. -/
theorem law_post {H : Type} {enc : TypeId × Value → H} {P : Program} {f : Func} {s : ChangeSpec} {W W' : World} {args : Array Value} {ds gs : List (DataW H)} {before : List MemPlace} {tb : TypeId}
    (hW : DataW.Whole enc P f.params.toList s.vars false W args.toList ds gs before) (hl : laidOutB P = true) (hts : ∀ t ∈ f.params.toList, P.readableRec t = true ∧ t < P.types.size)
    (hv : s.vars = []) (hr : f.resultTypes = #[tb]) (htb : P.underlying tb = some .bool)
    (hspec : s.fn H (ds ++ gs) = { results := [.lit (.bool true)], args := ds, vars := [] }) (hb : Below W.heap.size W W') :
    s.post enc P f false true false false W args (.bool true) W' := by
  have hlt : ∀ p ∈ before, p.block < W.heap.size := fun p hp => hW.lt p hp
  have hW0 := hW
  obtain ⟨p, q, hA, hV, rfl, hz, hn⟩ := hW
  have hq : gs = [] ∧ q = [] := by
    rw [hv] at hV
    cases gs with
    | nil => exact ⟨rfl, hV⟩
    | cons _ _ => exact hV.elim
  obtain ⟨rfl, rfl⟩ := hq
  refine ⟨ds, [], p ++ [], [], p, [], hW0, ?_, ?_, ?_, hb.frame _, fun h => by cases h⟩
  · rw [hspec, hr]
    exact trodAll_cons_mk (shut_bool htb _) trodAll_mk0
  · rw [hspec]
    exact trodAll_stays hl hb _ _ _ _ hts hA (fun x hx => hlt x (List.mem_append_left _ hx))
  · rw [hspec, hv]
    rfl

/-! ### Arguments that are slices -/
/-- What a walk is told of a slice of whole numbers that came in. -/
def SlI (k : IntKind) (w : World) (v : Value) (zs : List Int) : Prop :=
  (zs = [] ∧ ∃ a cap, v = .slice a 0 cap) ∨
  (zs ≠ [] ∧ ∃ b off cap, v = .slice (some ⟨b, off, none⟩) zs.length cap ∧ zs.length ≤ cap ∧ cap ≤ maxLen ∧ b < w.heap.size ∧
    (∀ i (h : i < zs.length), w.cell? ⟨b, off + i, none⟩ = some (.int k zs[i])) ∧ ∀ n ∈ zs, (Lit.int k n).wf = true)

end Go.Sg
end
section

/-
  Slices whose elements are one cell each, as a walk is told of them and as it hands them back.
-/
namespace Go.Sg
open Go Go.RowKit

/-- The slice v reads as the values us. -/
def Sl1 (w : World) (v : Value) (us : List Value) : Prop :=
  (us = [] ∧ ∃ a cap, v = .slice a 0 cap) ∨
  (us ≠ [] ∧ ∃ b off cap, v = .slice (some ⟨b, off, none⟩) us.length cap ∧ us.length ≤ cap ∧ cap ≤ maxLen ∧ b < w.heap.size ∧
    ∀ i (h : i < us.length), w.cell? ⟨b, off + i, none⟩ = some us[i])

theorem Sl1.below {w w' : World} {v : Value} {us : List Value} (h : Sl1 w v us) (hb : Below w.heap.size w w') : Sl1 w' v us := by
  rcases h with h | ⟨h0, b, off, cap, rfl, hl, hm, hlt, hc⟩
  · exact .inl h
  · exact .inr ⟨h0, b, off, cap, rfl, hl, hm, Nat.lt_of_lt_of_le hlt hb.size, fun i hi => by rw [hb.cell hlt]; exact hc i hi⟩
theorem Sl1.len {w : World} {v : Value} {us : List Value} (h : Sl1 w v us) : ∃ a cap, v = .slice a us.length cap := by
  rcases h with ⟨rfl, a, cap, rfl⟩ | ⟨_, b, off, cap, rfl, _⟩
  · exact ⟨a, cap, rfl⟩
  · exact ⟨_, cap, rfl⟩
theorem Sl1.len_le {w : World} {v : Value} {us : List Value} (h : Sl1 w v us) : us.length ≤ maxLen := by
  rcases h with ⟨rfl, _⟩ | ⟨_, b, off, cap, _, h1, h2, _⟩
  · simp
  · omega
theorem Sl1.take {w : World} {b off cap : Nat} {us : List Value} (hl : us.length ≤ cap) (hm : cap ≤ maxLen) (hlt : b < w.heap.size) (hc : ∀ i (h : i < us.length), w.cell? ⟨b, off + i, none⟩ = some us[i]) (n : Nat) (hn : n ≤ us.length) :
    Sl1 w (.slice (some ⟨b, off, none⟩) n cap) (us.take n) := by
  by_cases h0 : n = 0
  · subst h0
    exact .inl ⟨by simp, _, cap, rfl⟩
  · have hlen : (us.take n).length = n := by rw [List.length_take]; omega
    refine .inr ⟨by intro h; rw [h] at hlen; simp at hlen; omega, b, off, cap, by rw [hlen], by omega, hm, hlt, fun i hi => ?_⟩
    rw [hc i (by omega)]
    simp
theorem Sl1.of_owns {w : World} {base : Nat} {e : TypeId} {v : Value} {n : Nat} {us : List Value} (h : w.ownsRow base e 1 v n us) : Sl1 w v us := by
  have hs := h.1
  rcases h.2 with ⟨rfl, rfl⟩ | ⟨g, cap, cur, rfl, hb, hg, hn, hm, hsz, ht⟩
  · have : us = [] := List.length_eq_zero_iff.1 (by omega)
    exact .inl ⟨this, none, 0, rfl⟩
  · have hlen : us.length = n := by omega
    by_cases h0 : us = []
    · subst h0
      simp at hlen
      subst hlen
      exact .inl ⟨rfl, _, cap, rfl⟩
    · refine .inr ⟨h0, g, 0, cap, by rw [hlen], by omega, hm, lt_of_block hg, fun i hi => ?_⟩
      rw [Nat.zero_add, cell_of_row w g i cur e (0, 0) hg]
      have h1 : us[i]? = some us[i] := List.getElem?_eq_getElem hi
      rw [← h1, ← ht, List.getElem?_take]
      rw [if_pos (by omega)]
      simp
theorem ownsRow_below {w w' : World} {base : Nat} {e : TypeId} {size : Nat} {v : Value} {n : Nat} {xs : List Value} (h : w.ownsRow base e size v n xs) (hb : Below w.heap.size w w') : w'.ownsRow base e size v n xs := by
  refine ⟨h.1, ?_⟩
  rcases h.2 with h2 | ⟨g, cap, cur, rfl, hbg, hg, h3⟩
  · exact .inl h2
  · exact .inr ⟨g, cap, cur, rfl, hbg, by rw [hb.block g (lt_of_block hg)]; exact hg, h3⟩
theorem owns_ge {w : World} {base : Nat} {e : TypeId} {size : Nat} {v : Value} {n : Nat} {xs : List Value} (h : w.ownsRow base e size v n xs) : ∀ k, v.ownBlock = some k → base ≤ k := fun k hk => (h.lt k hk).1

theorem addr_add (b off j : Nat) : (⟨b, off, none⟩ : Addr).add j = ⟨b, off + j, none⟩ := by cases j <;> simp [Addr.add]
/-- A slice that a literal makes. -/
theorem owns_lit {w : World} {base : Nat} {e : TypeId} (cur : Array Value) (hb : base ≤ w.heap.size) (hm : cur.size ≤ maxLen) :
    (w.alloc (.cells cur e)).ownsRow base e 1 (.slice (some ⟨w.heap.size, 0, none⟩) cur.size cur.size) cur.size cur.toList :=
  ⟨by simp, .inr ⟨w.heap.size, cur.size, cur, rfl, hb, heap_alloc_new w _, Nat.le_refl _, hm, by omega, List.take_of_length_le (by simp)⟩⟩
/-- A call answers a slice that reads as the values us, and leaves what was there as it was. -/
def RetSl (us : List Value) (w : World) (e : Ending) (w' : World) : Prop := ∃ v, e = .returned v ∧ Sl1 w' v us ∧ Below w.heap.size w w'
/-- .. in memory that is new. -/
def RetSlN (us : List Value) (w : World) (e : Ending) (w' : World) : Prop := ∃ v, e = .returned v ∧ Sl1 w' v us ∧ Below w.heap.size w w' ∧ ∀ k, v.ownBlock = some k → w.heap.size ≤ k
theorem RetSlN.ret {us : List Value} {w : World} {e : Ending} {w' : World} (h : RetSlN us w e w') : RetSl us w e w' := by
  obtain ⟨v, h1, h2, h3, _⟩ := h
  exact ⟨v, h1, h2, h3⟩
/-- .. of whole numbers. -/
def ints (zs : List Int) : List Value := zs.map (Value.int .i64)
theorem ints_len (zs : List Int) : (ints zs).length = zs.length := by simp [ints]
theorem ints_one (zs : List Int) : ∀ u ∈ ints zs, u.oneCell' = true := by
  intro u hu; obtain ⟨_, _, rfl⟩ := List.mem_map.1 hu; rfl
end Go.Sg
end
