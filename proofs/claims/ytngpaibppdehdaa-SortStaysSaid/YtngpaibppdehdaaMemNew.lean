/-
  The walks of New, of both memories.
-/
import Derived.Test.YtngpaibppdehdaaMemRef
import Derived.Deep.RegionLaw
import Derived.BigRegion
namespace Go.Sg
open Go Go.RowKit
/-- A region as it is made. -/
def freshC (n : Nat) : Array Value := (wv (List.replicate n zeros).flatten).toArray
theorem flat_zeros (n : Nat) : (List.replicate n zeros).flatten = List.replicate (12 * n) 0 := by
  induction n with
  | zero => rfl
  | succ n ih =>
    rw [List.replicate_succ, List.flatten_cons, ih, show zeros = List.replicate 12 0 from rfl, List.replicate_append_replicate]
    congr 1
    omega
theorem z12_at (j : Nat) (hj : j < 12) : z12[j]! = .int .u64 0 := by
  have : j = 0 ∨ j = 1 ∨ j = 2 ∨ j = 3 ∨ j = 4 ∨ j = 5 ∨ j = 6 ∨ j = 7 ∨ j = 8 ∨ j = 9 ∨ j = 10 ∨ j = 11 := by omega
  rcases this with h | h | h | h | h | h | h | h | h | h | h | h <;> subst h <;> rfl
theorem made_fresh (n : Nat) : madeCells z12 (n * 12) = freshC n := by
  apply Array.ext_getElem?
  intro i
  simp only [freshC, madeCells, flat_zeros, wv, List.map_replicate, List.getElem?_toArray, List.getElem?_replicate, Array.getElem?_map, Array.getElem?_range]
  by_cases h : i < n * 12
  · rw [if_pos h, if_pos (by omega)]
    simp only [Option.map_some]
    rw [show z12.size = 12 from rfl, z12_at _ (Nat.mod_lt _ (by omega))]
  · rw [if_neg h, if_neg (by omega)]
    rfl
section
variable {P : Program}
/-- make of a row of structs or arrays. -/
theorem run_make_cells (t e : TypeId) (i : TypeInfo) (z : Array Value) (size : Nat) (ht : P.underlying t = some (.slice e)) (hi : P.info? e = some i) (hz : i.zero = some (.agg z)) (hsize : i.size = size) (bytes : Nat) (hby : i.bytes = bytes)
    (kl kc : IntKind) (n : Nat) (hbytes : bytes * n ≤ 281474976710656) (h63 : n ≤ 9223372036854775807) (w : World) :
    (Instr.makeSlice t (.int kl (n : Int)) (.int kc (n : Int))).run P w = .ok (.slice (some ⟨w.heap.size, 0, none⟩) n n) (w.alloc (.cells (madeCells z (n * size)) e)) := by
  subst hsize hby
  have hb' : (i.bytes : Int) * (n : Int) ≤ 281474976710656 := by
    have h : ((i.bytes * n : Nat) : Int) ≤ 281474976710656 := by omega
    rwa [Int.natCast_mul] at h
  have hr := run_make (P := P) w t e i (.agg z) ht hi hz kl kc n n (by omega) (Int.le_refl _) hb' (by omega)
  simp only [Int.toNat_natCast] at hr
  exact hr
/-- append to a slice of one's own, as one step of a region that draws. -/
theorem step_append_own_at {ops : Array Oper} {o : Oper} {a : Act} {w : World} {K : Act → World → Prop} {Q : Exit → Act → World → Prop} {E : Prop} (hgd : o.guard = none) (s x : Operand) (t : TypeId)
    (ho : o.op = .call { callee := .builtin .append, args := #[s, x], argTypes := #[t, t] })
    (base : Nat) (e : TypeId) (i : TypeInfo) (z : Value) (size bytes : Nat) (ht : P.underlying t = some (.slice e)) (hi : P.info? e = some i) (hz : i.zero = some z)
    (hsize : i.size = size) (hby : i.bytes = bytes) (hzs : z.cells.size = size) (hsz : 0 < size)
    (v : Value) (n : Nat) (xs : List Value) (hs : a.eval s = v) (hown : w.ownsRow base e size v n xs)
    (ad : Addr) (m c : Nat) (news : List Value) (hx : a.eval x = .slice (some ad) m c) (hl : news.length = m * size) (hnews : ∀ j u, news[j]? = some u → w.cell? (ad.add j) = some u) (h1 : ∀ u ∈ news, u.oneCell' = true)
    (h63 : n + m ≤ maxLen) (hbytes : (n + m) * bytes ≤ 140737488355328) (hbase : base ≤ w.heap.size)
    (hK : ∀ v' w', w'.ownsRow base e size v' (n + m) (xs ++ news) → w.grownBy w' v.ownBlock → (v'.ownBlock = v.ownBlock ∨ v'.ownBlock = some w.heap.size) → K (a.put o.dst v') w') :
    if Region.wanted o (yielded ops a.tmps) = true then Oper.wp P o a w K Q else E := by
  have hw : Region.wanted o (yielded ops a.tmps) = true := by simp [Region.wanted, hgd]
  rw [if_pos hw]
  obtain ⟨v', w', hr, h2, h3, _, h5⟩ := run_append_own_at (P := P) w base t o.type e i z size bytes ht hi hz hsize hby hzs hsz v n xs hown ad m c news hl hnews h1 h63 hbytes hbase
  unfold Oper.wp execOp
  simp only [ho, resolve, invoke, builtin, Sem.run_bind, Sem.run_pure, Result.andThen_ok, List.map_toArray, List.map_cons, List.map_nil, hs, hx, hr]
  exact hK v' w' h2 h3 h5
end
namespace Mm
/-- Is a size wrong? -/
def bad (n : Int) : Bool := decide (n < 1) || decide (4096 < n)
def newOk (zs : List Int) : Bool := decide (1 ≤ zs.length) && decide (zs.length ≤ 16) && !zs.any bad
def fresh (zs : List Int) : Mm := ⟨zs.map fun n => List.replicate n.toNat zeros, [], false⟩
theorem fresh_ok {zs : List Int} (h : newOk zs = true) : (fresh zs).ok := by
  simp only [newOk, Bool.and_eq_true, decide_eq_true_eq, Bool.not_eq_true', List.any_eq_false] at h
  obtain ⟨⟨h1, h2⟩, h3⟩ := h
  refine ⟨fun g hg => ?_, by simpa [fresh] using h2, by simpa [fresh] using h1⟩
  simp only [fresh, List.mem_map] at hg
  obtain ⟨n, hn, rfl⟩ := hg
  have := h3 n hn
  simp [bad] at this
  refine ⟨by simp; omega, fun c hc => ?_⟩
  obtain rfl := List.eq_of_mem_replicate hc
  refine ⟨rfl, fun x hx => ?_⟩
  simp [zeros] at hx
  subst hx
  exact ⟨by omega, by omega⟩
end Mm
end Go.Sg
namespace Go.Proofs.Ytngpaibppdehdaa
open Go.RowKit Go.Sg

theorem info_cell : (Try.prog.info? 44).map (fun i => (i.zero, i.size, i.bytes)) = some (some (.agg z12), 12, 96) := by kernel_rfl
theorem info_reg : (Try.prog.info? 86).map (fun i => (i.zero, i.size, i.bytes)) = some (some (.slice none 0 0), 1, 24) := by kernel_rfl

def regV (g : Nat → Nat) (zs : List Int) (i : Nat) : Value := .slice (some ⟨g i, 0, none⟩) (zs.getD i 0).toNat (zs.getD i 0).toNat

structure NewW (w : World) (T p : Nat) (zs : List Int) (k : Nat) (g : Nat → Nat) (rv : Value) (wr : World) : Prop where
  box : Blk wr p #[rv, .slice none 0 0, .bool false] T
  row : wr.ownsRow (p + 1) 86 1 rv k ((List.range k).map (regV g zs))
  cells : ∀ i, i < k → Blk wr (g i) (freshC (zs.getD i 0).toNat) 44
  gp : ∀ i, i < k → p < g i
  gr : ∀ i, i < k → rv.ownBlock ≠ some (g i)
  gg : ∀ i j, i < k → j < k → g i = g j → i = j
  old : Below p w wr

theorem NewW.step {w wr w1 w3 : World} {T p : Nat} {zs : List Int} {k : Nat} {g : Nat → Nat} {rv rv' : Value} (h : NewW w T p zs k g rv wr) (n : Nat) (hn : (zs.getD k 0).toNat = n)
    (hm : w1.ownsRow 0 44 12 (.slice (some ⟨wr.heap.size, 0, none⟩) n n) n (madeCells z12 (n * 12)).toList) (hg1 : wr.drew.grownBy w1 none)
    (o : Obj) (hown : w3.ownsRow (p + 1) 86 1 rv' (k + 1) ((List.range k).map (regV g zs) ++ [.slice (some ⟨wr.heap.size, 0, none⟩) n n])) (hg3 : (w1.alloc o).grownBy w3 rv.ownBlock)
    (hat : rv'.ownBlock = rv.ownBlock ∨ rv'.ownBlock = some (w1.heap.size + 1)) :
    NewW w T p zs (k + 1) (fun i => if i = k then wr.heap.size else g i) rv' (w3.setCell ⟨p, 0, none⟩ rv') := by
  have hp : p < wr.heap.size := h.box.lt
  have hs1 : wr.heap.size + 1 ≤ w1.heap.size := by
    have := (hm.lt wr.heap.size rfl).2
    omega
  have hs3 : w1.heap.size + 1 ≤ w3.heap.size := by have := hg3.size; rw [World.size_alloc] at this; exact this
  have hb : ∀ j, j < wr.heap.size → some j ≠ rv.ownBlock → w3.heap[j]? = wr.heap[j]? := fun j hj hn =>
    (hg3.block j (by rw [World.size_alloc]; omega) hn).trans ((Below.heap_alloc w1 o j (by omega)).trans (hg1.block j hj (by simp)))
  have hrv : ∀ j, rv.ownBlock = some j → p + 1 ≤ j ∧ j < wr.heap.size := h.row.lt
  have hnew : Blk w3 wr.heap.size (freshC n) 44 := by
    have h1 : Blk w1 wr.heap.size (freshC n) 44 := by
      rcases hm.2 with ⟨h2, _⟩ | ⟨b, cap, cur, h2, _, hb2, _, _, hsz, ht⟩
      · simp at h2
      · simp at h2
        obtain ⟨h3, h4⟩ := h2
        subst h3 h4
        rw [← hsz] at ht
        have : cur = freshC n := by
          rw [← made_fresh]
          apply Array.toList_inj.1
          rw [List.take_of_length_le (by simp)] at ht
          rw [ht, hsz]
        rw [← this]
        exact hb2
    exact Blk_keep (h1.alloc o) (hg3.block _ (by rw [World.size_alloc]; omega) (fun e => by have := (hrv _ e.symm).2; omega))
  have hpe : ∀ j, rv'.ownBlock = some j → j ≠ p := fun j hj => by have := (hown.lt j hj).1; omega
  have hk : (List.range (k + 1)).map (regV (fun i => if i = k then wr.heap.size else g i) zs) = (List.range k).map (regV g zs) ++ [.slice (some ⟨wr.heap.size, 0, none⟩) n n] := by
    rw [List.range_succ, List.map_append]
    congr 1
    · refine List.map_congr_left fun i hi => ?_
      have := List.mem_range.1 hi
      simp only [regV, if_neg (show i ≠ k by omega)]
    · simp only [List.map_cons, List.map_nil, regV, if_true, hn]
  exact {
    box := by
      have := (Blk_keep h.box (hb p hp (fun e => by have := (hrv p e.symm).1; omega))).set 0 rv'
      exact this
    row := by
      rw [hk]
      exact ownsRow_keep hown fun j hj => Below.heap_setCell w3 _ _ j (hpe j hj)
    cells := fun i hi => by
      by_cases e : i = k
      · subst e
        simp only [if_true]
        rw [hn]
        exact hnew.other _ _ (by show wr.heap.size ≠ p; omega)
      · simp only [if_neg e]
        have hi' : i < k := by omega
        have := h.gp i hi'
        exact (Blk_keep (h.cells i hi') (hb _ (h.cells i hi').lt (fun e => h.gr i hi' e.symm))).other _ _ (by show g i ≠ p; omega)
    gp := fun i hi => by
      by_cases e : i = k
      · simp only [if_pos e]; exact hp
      · simp only [if_neg e]; exact h.gp i (by omega)
    gr := fun i hi => by
      have h0 : rv'.ownBlock ≠ some wr.heap.size ∧ ∀ i, i < k → rv'.ownBlock ≠ some (g i) := by
        rcases hat with e | e
        · rw [e]; exact ⟨fun e2 => by have := (hrv _ e2).2; omega, h.gr⟩
        · rw [e]; exact ⟨fun e2 => by injection e2 with e2; omega, fun i hi e2 => by injection e2 with e2; have := (h.cells i hi).lt; omega⟩
      by_cases e : i = k
      · simp only [if_pos e]; exact h0.1
      · simp only [if_neg e]; exact h0.2 i (by omega)
    gg := fun i j hi hj e => by
      by_cases ei : i = k
      · by_cases ej : j = k
        · omega
        · simp only [if_pos ei, if_neg ej] at e
          have := (h.cells j (by omega)).lt
          omega
      · by_cases ej : j = k
        · simp only [if_neg ei, if_pos ej] at e
          have := (h.cells i (by omega)).lt
          omega
        · simp only [if_neg ei, if_neg ej] at e
          exact h.gg i j (by omega) (by omega) e
    old := by
      have h1 : Below p w w3 := ⟨hg3.os.trans (hg1.os.trans h.old.os), hg3.tape.trans (hg1.tape.trans h.old.tape), hg3.output.trans (hg1.output.trans h.old.output), by have := h.old.size; omega, fun j hj =>
        (hb j (by omega) (fun e => by have := (hrv j e.symm).1; omega)).trans (h.old.block j hj)⟩
      exact h1.setCell (by show p ≤ p; omega) _ }

theorem NewW.done {w wr : World} {T p : Nat} {zs : List Int} {g : Nat → Nat} {rv : Value} (h : NewW w T p zs zs.length g rv wr) (hok : Mm.newOk zs = true) (hp : p = w.heap.size) :
    ∃ F, MemRep wr T p (Mm.fresh zs) F ∧ ∀ k, F k → w.heap.size ≤ k := by
  have hfo := Mm.fresh_ok hok
  have hlen : (Mm.fresh zs).regs.length = zs.length := by simp [Mm.fresh]
  have hreg : ∀ i (hi : i < zs.length), (Mm.fresh zs).regs[i]'(by rw [hlen]; exact hi) = List.replicate (zs.getD i 0).toNat zeros := fun i hi => by simp [Mm.fresh, List.getD, hi]
  rcases h.row.2 with ⟨h1, h0⟩ | ⟨rb, cap, cur, rfl, hb, hg, hn, hm, hsz, ht⟩
  · have := hfo.2.2
    omega
  have hrbl := lt_of_block hg
  refine ⟨fun k => p ≤ k ∧ k < wr.heap.size, ⟨rb, cap, cur, g, .slice none 0 0, ?_⟩, fun k hk => by omega⟩
  exact {
    box := by rw [hlen]; exact h.box
    row := hg
    capn := by omega
    lecap := by omega
    capm := hm
    slot := fun i hi => by
      rw [hlen] at hi
      have h2 : cur.toList[i]? = some (regV g zs i) := by
        have h3 : ((List.range zs.length).map (regV g zs))[i]? = some (regV g zs i) := by simp [hi]
        rw [← ht, List.getElem?_take] at h3
        split at h3
        · exact h3
        · simp at h3
      rw [hreg i hi, List.length_replicate]
      simpa [regV] using h2
    cells := fun i hi => by
      rw [hlen] at hi
      rw [hreg i hi]
      exact h.cells i hi
    evs := World.ownsRow_nil _ _ _ _
    inP := ⟨Nat.le_refl _, h.box.lt⟩
    inR := ⟨by omega, hrbl⟩
    inG := fun i hi => ⟨by have := h.gp i (by omega); omega, (h.cells i (by omega)).lt⟩
    inE := fun k hk => by simp [Value.ownBlock] at hk
    pr := by omega
    pg := fun i hi => by have := h.gp i (by omega); omega
    rg := fun i hi e => h.gr i (by omega) (by simp [Value.ownBlock, e])
    gg := fun i j hi hj => h.gg i j (by omega) (by omega)
    pe := fun k hk => by simp [Value.ownBlock] at hk
    lt := fun k hk => hk.2
    ok := hfo }
end Go.Proofs.Ytngpaibppdehdaa
