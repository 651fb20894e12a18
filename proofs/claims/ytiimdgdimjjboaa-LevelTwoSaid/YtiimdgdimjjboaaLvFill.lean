/-
  A level, and a box of data that is filled later.
-/
import Derived.Test.YtiimdgdimjjboaaHbp
import Derived.Test.YtiimdgdimjjboaaHbn
set_option linter.unusedVariables false
set_option linter.unusedSimpArgs false
set_option linter.unusedSectionVars false
set_option linter.unnecessarySimpa false
namespace Go.Proofs.Ytiimdgdimjjboaa
open Go Go.RowKit Go.Sg
variable {w0 w w' : World} {p q ib : Nat} {c : Lc} {first : Int} {S : Ls} {D : Nat → Prop} {X : World → Prop}
def zd8 : Array Value := #[.int .u64 0, .int .u64 0, .int .u64 0, .int .u64 0, .int .u64 0, .int .u64 0, .int .u64 0, .int .u64 0]
/-- a new box lies beside a level -/
structure LvB (w0 w : World) (p q ib : Nat) (c : Lc) (first : Int) (S : Ls) (D : Nat → Prop) (X : World → Prop) (b : Nat) : Prop where
  one : LvR w0 w p q ib c first S (fun k => D k ∨ k = b) (fun w' => X w' ∧ Blk w' b zd8 66)
  keeps : Keeps D X
  ne : ∀ k, D k → k ≠ b
  ge : w0.heap.size ≤ b
theorem LvB.new (hK : Keeps D X) (h : LvR w0 w p q ib c first S D X) : LvB w0 (w.alloc (.cells zd8 66)) p q ib c first S D X w.heap.size :=
  ⟨h.box hK zd8 _, hK, fun k hk => Nat.ne_of_lt (h.lt.1 k hk), h.one.old.size⟩
theorem LvB.below {b : Nat} (h : LvB w0 w p q ib c first S D X b) (hb : Below w.heap.size w w') : LvB w0 w' p q ib c first S D X b :=
  ⟨h.one.below (keeps_and h.keeps (keeps_blk _ _ _)) hb, h.keeps, h.ne, h.ge⟩
theorem LvB.there {b : Nat} (h : LvB w0 w p q ib c first S D X b) (vs : List Value) (hl : vs.length = 8) : w.there b 0 vs.length := by
  rw [hl]; exact h.one.x.2.there 8 (by decide)
theorem LvB.x {b : Nat} (h : LvB w0 w p q ib c first S D X b) : X w := h.one.x.1
theorem LvB.call {b : Nat} {P : Program} {f : FuncId} {args : Array Value} {R : Ending → Prop} {S' : Ls} (h : LvB w0 w p q ib c first S D X b)
    (hc : ∀ (D' : Nat → Prop) (X' : World → Prop), Keeps D' X' → LvR w0 w p q ib c first S D' X' → Calls P f args w fun e w' => R e ∧ LvR w0 w' p q ib c first S' D' X') :
    Calls P f args w fun e w' => R e ∧ LvB w0 w' p q ib c first S' D X b :=
  (hc _ _ (keeps_and h.keeps (keeps_blk _ _ _)) h.one).mono fun e w' ⟨he, hx⟩ => ⟨he, hx, h.keeps, h.ne, h.ge⟩
theorem LvB.fill {b : Nat} (h : LvB w0 w p q ib c first S D X b) (vs : List Value) (hl : vs.length = 8) :
    LvR w0 (w.setCells b 0 vs) p q ib c first S (fun k => D k ∨ k = b) (fun w' => X w' ∧ Blk w' b vs.toArray 66) := by
  have hoff := h.one.off b (.inr rfl)
  have hx := h.one.one.x
  have hother : ∀ k, k ≠ b → (w.setCells b 0 vs).heap[k]? = w.heap[k]? := fun k hk => heap_setCells_neL vs 0 w k hk
  have hsz : w.heap.size ≤ (w.setCells b 0 vs).heap.size := by rw [size_setCells]; exact Nat.le_refl _
  refine ⟨h.one.one.turn (fun k hk => hk) ((MFrame.refl _ _).setCells vs 0 (.inl ⟨.inl (.inr rfl), h.ge⟩)) ⟨⟨?_, ?_⟩, ?_⟩, h.one.off, h.one.ne, h.one.ge⟩
  · exact h.keeps w _ hsz (fun k hk => hother k (h.ne k hk)) hx.1.1
  · exact blk_all vs hx.1.2 (by rw [hl]; rfl)
  · exact keeps_lv p q ib c first S.over S.ids w _ hsz (fun k hk => hother k (by rcases hk with rfl | rfl; exact fun e => hoff.1 e.symm; exact fun e => hoff.2 e.symm)) hx.2
/-- a cell beside a level is written -/
theorem LvR.poke {Y : World → Prop} {b : Nat} (hD : D b) (hge : w0.heap.size ≤ b) (h : LvR w0 w p q ib c first S D X) (i : Nat) (v : Value) (hY : Y (w.setCell ⟨b, i, none⟩ v)) : LvR w0 (w.setCell ⟨b, i, none⟩ v) p q ib c first S D Y := by
  have hoff := h.off b hD
  have hx := h.one.x
  have hother : ∀ k, k ≠ b → (w.setCell ⟨b, i, none⟩ v).heap[k]? = w.heap[k]? := fun k hk => Below.heap_setCell w ⟨b, i, none⟩ v k hk
  have hsz : (w.setCell ⟨b, i, none⟩ v).heap.size = w.heap.size := World.size_setCell w _ _
  refine ⟨h.one.turn (fun k hk => hk) ((MFrame.refl _ _).set (p := ⟨b, i, none⟩) (.inl ⟨.inl hD, hge⟩) v) ⟨hY, ?_⟩, h.off, h.ne, h.ge⟩
  exact keeps_lv p q ib c first S.over S.ids w _ (by rw [hsz]; exact Nat.le_refl _) (fun k hk => hother k (by rcases hk with rfl | rfl; exact fun e => hoff.1 e.symm; exact fun e => hoff.2 e.symm)) hx.2
/-- cells beside a level are written -/
theorem LvR.pokes {Y : World → Prop} {b : Nat} (hD : D b) (hge : w0.heap.size ≤ b) (h : LvR w0 w p q ib c first S D X) (o : Nat) (vs : List Value) (hY : Y (w.setCells b o vs)) : LvR w0 (w.setCells b o vs) p q ib c first S D Y := by
  have hoff := h.off b hD
  have hx := h.one.x
  have hother : ∀ k, k ≠ b → (w.setCells b o vs).heap[k]? = w.heap[k]? := fun k hk => heap_setCells_neL vs o w k hk
  refine ⟨h.one.turn (fun k hk => hk) ((MFrame.refl _ _).setCells vs o (.inl ⟨.inl hD, hge⟩)) ⟨hY, ?_⟩, h.off, h.ne, h.ge⟩
  exact keeps_lv p q ib c first S.over S.ids w _ (by rw [size_setCells]; exact Nat.le_refl _) (fun k hk => hother k (by rcases hk with rfl | rfl; exact fun e => hoff.1 e.symm; exact fun e => hoff.2 e.symm)) hx.2
theorem info_dataR (l : List Int) (h : l.length = 8) : (Try.prog.info? 66).map (·.size) = some (wv l).length := by rw [wv_len, h]; kernel_rfl
end Go.Proofs.Ytiimdgdimjjboaa
