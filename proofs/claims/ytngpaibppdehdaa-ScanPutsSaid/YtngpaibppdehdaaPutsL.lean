/-
  A slice of cells that grows beside a memory.
-/
import Derived.Test.YtngpaibppdehdaaScanAll
import Derived.Great.BuildSlice
namespace Go.Sg
open Go Go.RowKit
theorem fill_cell (rc : List Value) (h : rc.length = 12) : Instr.fill (fun i => some (i * 12, 12)) ((Array.range (1 * 12)).map (z12[· % z12.size]!)) [(0, .agg rc.toArray)] = some rc.toArray := by
  match rc, h with
  | [a0, a1, a2, a3, a4, a5, a6, a7, a8, a9, a10, a11], _ =>
    have e : (Array.range (1 * 12)).map (z12[· % z12.size]!) = z12 := by kernel_rfl
    rw [e]
    simp [Instr.fill, Value.cells, z12]
theorem twelve {rc : List Value} (h : rc.length = 12) : ∃ a0 a1 a2 a3 a4 a5 a6 a7 a8 a9 a10 a11, rc = [a0, a1, a2, a3, a4, a5, a6, a7, a8, a9, a10, a11] := by
  match rc, h with
  | [a0, a1, a2, a3, a4, a5, a6, a7, a8, a9, a10, a11], _ => exact ⟨a0, a1, a2, a3, a4, a5, a6, a7, a8, a9, a10, a11, rfl⟩
theorem row_cells (w : World) (rc : List Value) (t : TypeId) : ∀ j u, rc[j]? = some u → (w.alloc (.cells rc.toArray t)).cell? ((⟨w.heap.size, 0, none⟩ : Addr).add j) = some u := by
  intro j u hu
  rw [addr_add, Nat.zero_add, cell_of_row _ _ _ _ _ (0, 0) (heap_alloc_new w _), List.getElem?_toArray]
  exact hu
/-- the cells of region 0, one behind the other -/
def wasV (M : Mm) (n : Nat) : List Value := (List.range n).flatMap fun j : Nat => wv (M.read 0 (j : Int))
theorem wasV_succ (M : Mm) (n : Nat) : wasV M (n + 1) = wasV M n ++ wv (M.read 0 (n : Int)) := by simp [wasV, List.range_succ]
theorem wasV_len {M : Mm} (h : M.ok) : ∀ n, (wasV M n).length = n * 12
  | 0 => rfl
  | n + 1 => by rw [wasV_succ, List.length_append, wasV_len h n, wv_len, (Mm.read_ok h 0 (n : Int)).1]; omega
theorem wasV_at {M : Mm} (h : M.ok) {k j : Nat} {u : Value} (hu : (wv (M.read 0 (k : Int)))[j]? = some u) : ∀ {n : Nat}, k < n → (wasV M n)[k * 12 + j]? = some u
  | 0, hk => by omega
  | n + 1, hk => by
    have hj : j < 12 := by
      have := (List.getElem?_eq_some_iff.1 hu).1
      rwa [wv_len, (Mm.read_ok h 0 (k : Int)).1] at this
    rw [wasV_succ]
    rcases Nat.lt_or_ge k n with h1 | h1
    · rw [List.getElem?_append_left (by rw [wasV_len h]; omega)]
      exact wasV_at h hu h1
    · obtain rfl : k = n := by omega
      rw [List.getElem?_append_right (by rw [wasV_len h]; omega), wasV_len h, show k * 12 + j - k * 12 = j by omega]
      exact hu
theorem own_range {w : World} {base : Nat} {e : TypeId} {v : Value} {M : Mm} {n k : Nat} (hM : M.ok) (h : w.ownsRow base e 12 v n (wasV M n)) (hk : k < n) :
    ∃ g cap, v = .slice (some ⟨g, 0, none⟩) n cap ∧ n ≤ cap ∧ cap ≤ maxLen ∧ w.rangeAt g (k * 12) (wv (M.read 0 (k : Int))) := by
  rcases h.2 with ⟨_, h0⟩ | ⟨g, cap, cur, rfl, hb, hg, hn, hm, hsz, ht⟩
  · omega
  · refine ⟨g, cap, rfl, hn, hm, fun j u hu => ?_⟩
    have := wasV_at hM hu hk
    rw [cell_of_row w g _ cur e (0, 0) hg]
    rw [← ht, List.getElem?_take] at this
    split at this
    · simpa using this
    · simp at this
end Go.Sg
namespace Go.Proofs.Ytngpaibppdehdaa
open Go Go.RowKit Go.Sg
variable {T : Nat} {w0 w w' : World} {p : Nat} {M : Mm} {D E : Nat → Prop} {X Y : World → Prop}
theorem keeps_own (base : Nat) (e : TypeId) (size : Nat) (v : Value) (n : Nat) (xs : List Value) : Keeps (fun i => v.ownBlock = some i) (fun w => w.ownsRow base e size v n xs) :=
  fun _ _ _ hb hx => ownsRow_keep hx fun k hk => hb k hk
/-- what lies beside a memory turns, and new memory with it -/
theorem OneX.grow (h : OneX T w0 w p M D X) (hf : MFrame (fun k => D k ∧ w0.heap.size ≤ k) w w') (hE : ∀ k, E k → (D k ∨ w.heap.size ≤ k) ∧ k < w'.heap.size) (hy : Y w') : OneX T w0 w' p M E Y := by
  obtain ⟨F, h1, h2, h3, h4, h5, h6⟩ := h
  exact ⟨F, h1.frame hf (fun k hk hd => h4 k hd.1 hk), h2, h3.trans (hf.below (fun k hk => hk.2) h3.size), fun k hk hF => (hE k hk).1.elim (fun hd => h4 k hd hF) (fun hs => by have := h1.lt k hF; omega), fun k hk => (hE k hk).2, hy⟩
end Go.Proofs.Ytngpaibppdehdaa
