/-
  Two memories: blocks filled beside them; a guarded load of a row.
-/
import Derived.Test.YtngpaibppdehdaaRef7F
import Derived.Test.YtngpaibppdehdaaReads
import Derived.Test.YtngpaibppdehdaaShown7
import Derived.Test.YtngpaibppdehdaaAlike7
import Derived.Test.YtngpaibppdehdaaRow
namespace Go.Sg
open Go Go.RowKit
theorem wpList_load_rowIf {P : Program} {ops : Array Oper} {rest : List Oper} {o : Oper} {a : Act} {w : World} {Q : Exit → Act → World → Prop} (hw : Region.wanted o (yielded ops a.tmps) = true) (ty : TypeId) (x : Operand) (ho : o.op = .load ty x)
    (g : Nat) (hx : a.eval x = .pointer (some ⟨g, 0, none⟩)) (t : TypeId) (cs : Array Value) (fr : Nat × Nat) (d : TypeDesc) (hg : w.heap[g]? = some (.cells cs t fr))
    (hu : P.underlying ty = some d) (hd : (match d with | .struct _ | .array _ _ => true | _ => false) = true) (hi : (P.info? ty).map (·.size) = some cs.size)
    (h : wpList P ops Q rest (a.put o.dst (.agg cs)) w) : wpList P ops Q (o :: rest) a w :=
  wpList_step fun K hK => by
    rw [if_pos hw]
    exact wp_load_row ty x ho g hx t cs fr d hg hu hd hi (hK _ _ h)
theorem slI_words' {w : World} {v : Value} {zs : List Int} (h : SlI .u64 w v zs) : ∀ n ∈ zs, Word n := by
  rcases h with ⟨rfl, _⟩ | ⟨_, _, _, _, _, _, _, _, _, h⟩
  · intro n hn; cases hn
  · exact fun n hn => u64_of (h n hn)
end Go.Sg
namespace Go.Proofs.Ytngpaibppdehdaa
open Go Go.RowKit Go.Sg
variable {T T' : Nat} {w0 w w' : World} {p q : Nat} {M N : Mm} {D : Nat → Prop} {X : World → Prop}
theorem PairX.dlt (h : PairX T T' w0 w p q M N D X) : ∀ k, D k → k < w.heap.size := by
  obtain ⟨G, h1, _⟩ := h
  exact fun k hk => h1.dlt k (.inl hk)
theorem PairX.fill (hK : Keeps D X) (h : PairX T T' w0 w p q M N D X) (cs c2 : Array Value) (t : TypeId) :
    PairX T T' w0 ((w.alloc (.cells cs t)).setRow w.heap.size c2) p q M N (fun i => D i ∨ i = w.heap.size) (fun w' => X w' ∧ Blk w' w.heap.size c2 t) := by
  have hb := h.box hK cs t
  have hD := h.dlt
  exact hb.turn (fun _ h => h) (mframe_setRow (MFrame.refl _ _) ⟨.inr rfl, h.old.size⟩ _) ⟨hK _ _ (by simp [World.setRow]) (fun i hi => setRow_other _ _ _ _ (Nat.ne_of_lt (hD i hi))) hb.x.1, hb.x.2.setRow _⟩
theorem noted_len {M : Mm} (es : List Ev) : (M.noted es).evs.length = M.evs.length + es.length := by rw [Mm.noted_evs, List.length_append]
theorem eq_cell_run (c : List Int) (h : c.length = 12) (w : World) : (Op.equalIn 10000 44 (.agg (cw c)) (.agg (cw c))).run Try.prog w = .ok true w := by
  have := run_eqcell _ _ h h w
  rw [decide_eq_true rfl] at this
  exact this
end Go.Proofs.Ytngpaibppdehdaa
