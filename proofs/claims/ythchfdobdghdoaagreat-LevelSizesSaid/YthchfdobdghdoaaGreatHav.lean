/-
  Joined texts: MemRef, MemNew, MemNewW.
-/
import Derived.Test.YthchfdobdghdoaaGreatHat
import Derived.StillTailTactics
import Derived.Deep.RegionLaw
import Derived.BigRegion
set_option linter.unusedVariables false
set_option linter.unusedSimpArgs false
set_option linter.unusedSectionVars false
set_option linter.unnecessarySimpa false
section

/-
  The walks of Read and Write of the document's memory.
-/
namespace Go.Sg
open Go Go.RowKit
end Go.Sg
namespace Go.Proofs.YthchfdobdghdoaaGreat
open Go.RowKit Go.Sg

end Go.Proofs.YthchfdobdghdoaaGreat
end
section

/-
  The walks of New, of both memories.
-/
namespace Go.Sg
open Go Go.RowKit
/-- A region as it is made. -/
def freshC (n : Nat) : Array Value := (wv (List.replicate n zeros).flatten).toArray
theorem flat_zeros (n : Nat) : (List.replicate n zeros).flatten = List.replicate (12 * n) 0 := by
  induction n with
  | zero => rfl
  | succ n ih =>
    rw [List.replicate_succ, List.flatten_cons, ih, show zeros = List.replicate 12 0 from rfl, List.replicate_append_replicate]
    congr 1
    omega
theorem z12_at (j : Nat) (hj : j < 12) : z12[j]! = .int .u64 0 := by
  have : j = 0 ∨ j = 1 ∨ j = 2 ∨ j = 3 ∨ j = 4 ∨ j = 5 ∨ j = 6 ∨ j = 7 ∨ j = 8 ∨ j = 9 ∨ j = 10 ∨ j = 11 := by omega
  rcases this with h | h | h | h | h | h | h | h | h | h | h | h <;> subst h <;> rfl
theorem made_fresh (n : Nat) : madeCells z12 (n * 12) = freshC n := by
  apply Array.ext_getElem?
  intro i
  simp only [freshC, madeCells, flat_zeros, wv, List.map_replicate, List.getElem?_toArray, List.getElem?_replicate, Array.getElem?_map, Array.getElem?_range]
  by_cases h : i < n * 12
  · rw [if_pos h, if_pos (by omega)]
    simp only [Option.map_some]
    rw [show z12.size = 12 from rfl, z12_at _ (Nat.mod_lt _ (by omega))]
  · rw [if_neg h, if_neg (by omega)]
    rfl
section
variable {P : Program}
/-- make of a row of structs or arrays. -/
theorem run_make_cells (t e : TypeId) (i : TypeInfo) (z : Array Value) (size : Nat) (ht : P.underlying t = some (.slice e)) (hi : P.info? e = some i) (hz : i.zero = some (.agg z)) (hsize : i.size = size) (bytes : Nat) (hby : i.bytes = bytes)
    (kl kc : IntKind) (n : Nat) (hbytes : bytes * n ≤ 281474976710656) (h63 : n ≤ 9223372036854775807) (w : World) :
    (Instr.makeSlice t (.int kl (n : Int)) (.int kc (n : Int))).run P w = .ok (.slice (some ⟨w.heap.size, 0, none⟩) n n) (w.alloc (.cells (madeCells z (n * size)) e)) := by
  subst hsize hby
  have hb' : (i.bytes : Int) * (n : Int) ≤ 281474976710656 := by
    have h : ((i.bytes * n : Nat) : Int) ≤ 281474976710656 := by omega
    rwa [Int.natCast_mul] at h
  have hr := run_make (P := P) w t e i (.agg z) ht hi hz kl kc n n (by omega) (Int.le_refl _) hb' (by omega)
  simp only [Int.toNat_natCast] at hr
  exact hr
/-- append to a slice of one's own, as one step of a region that draws. -/
theorem step_append_own_at {ops : Array Oper} {o : Oper} {a : Act} {w : World} {K : Act → World → Prop} {Q : Exit → Act → World → Prop} {E : Prop} (hgd : o.guard = none) (s x : Operand) (t : TypeId)
    (ho : o.op = .call { callee := .builtin .append, args := #[s, x], argTypes := #[t, t] })
    (base : Nat) (e : TypeId) (i : TypeInfo) (z : Value) (size bytes : Nat) (ht : P.underlying t = some (.slice e)) (hi : P.info? e = some i) (hz : i.zero = some z)
    (hsize : i.size = size) (hby : i.bytes = bytes) (hzs : z.cells.size = size) (hsz : 0 < size)
    (v : Value) (n : Nat) (xs : List Value) (hs : a.eval s = v) (hown : w.ownsRow base e size v n xs)
    (ad : Addr) (m c : Nat) (news : List Value) (hx : a.eval x = .slice (some ad) m c) (hl : news.length = m * size) (hnews : ∀ j u, news[j]? = some u → w.cell? (ad.add j) = some u) (h1 : ∀ u ∈ news, u.oneCell' = true)
    (h63 : n + m ≤ maxLen) (hbytes : (n + m) * bytes ≤ 140737488355328) (hbase : base ≤ w.heap.size)
    (hK : ∀ v' w', w'.ownsRow base e size v' (n + m) (xs ++ news) → w.grownBy w' v.ownBlock → (v'.ownBlock = v.ownBlock ∨ v'.ownBlock = some w.heap.size) → K (a.put o.dst v') w') :
    if Region.wanted o (yielded ops a.tmps) = true then Oper.wp P o a w K Q else E := by
  have hw : Region.wanted o (yielded ops a.tmps) = true := by simp [Region.wanted, hgd]
  rw [if_pos hw]
  obtain ⟨v', w', hr, h2, h3, _, h5⟩ := run_append_own_at (P := P) w base t o.type e i z size bytes ht hi hz hsize hby hzs hsz v n xs hown ad m c news hl hnews h1 h63 hbytes hbase
  unfold Oper.wp execOp
  simp only [ho, resolve, invoke, builtin, Sem.run_bind, Sem.run_pure, Result.andThen_ok, List.map_toArray, List.map_cons, List.map_nil, hs, hx, hr]
  exact hK v' w' h2 h3 h5
end
namespace Mm
/-- Is a size wrong? -/
def bad (n : Int) : Bool := decide (n < 1) || decide (4096 < n)
def newOk (zs : List Int) : Bool := decide (1 ≤ zs.length) && decide (zs.length ≤ 16) && !zs.any bad
def fresh (zs : List Int) : Mm := ⟨zs.map fun n => List.replicate n.toNat zeros, [], false⟩
theorem fresh_ok {zs : List Int} (h : newOk zs = true) : (fresh zs).ok := by
  simp only [newOk, Bool.and_eq_true, decide_eq_true_eq, Bool.not_eq_true', List.any_eq_false] at h
  obtain ⟨⟨h1, h2⟩, h3⟩ := h
  refine ⟨fun g hg => ?_, by simpa [fresh] using h2, by simpa [fresh] using h1⟩
  simp only [fresh, List.mem_map] at hg
  obtain ⟨n, hn, rfl⟩ := hg
  have := h3 n hn
  simp [bad] at this
  refine ⟨by simp; omega, fun c hc => ?_⟩
  obtain rfl := List.eq_of_mem_replicate hc
  refine ⟨rfl, fun x hx => ?_⟩
  simp [zeros] at hx
  subst hx
  exact ⟨by omega, by omega⟩
end Mm
end Go.Sg
namespace Go.Proofs.YthchfdobdghdoaaGreat
open Go.RowKit Go.Sg

theorem info_cell : (Tryz.prog.info? 74).map (fun i => (i.zero, i.size, i.bytes)) = some (some (.agg z12), 12, 96) := by kernel_rfl
theorem info_reg : (Tryz.prog.info? 89).map (fun i => (i.zero, i.size, i.bytes)) = some (some (.slice none 0 0), 1, 24) := by kernel_rfl

def regV (g : Nat → Nat) (zs : List Int) (i : Nat) : Value := .slice (some ⟨g i, 0, none⟩) (zs.getD i 0).toNat (zs.getD i 0).toNat

structure NewW (w : World) (T p : Nat) (zs : List Int) (k : Nat) (g : Nat → Nat) (rv : Value) (wr : World) : Prop where
  box : Blk wr p #[rv, .slice none 0 0, .bool false] T
  row : wr.ownsRow (p + 1) 89 1 rv k ((List.range k).map (regV g zs))
  cells : ∀ i, i < k → Blk wr (g i) (freshC (zs.getD i 0).toNat) 74
  gp : ∀ i, i < k → p < g i
  gr : ∀ i, i < k → rv.ownBlock ≠ some (g i)
  gg : ∀ i j, i < k → j < k → g i = g j → i = j
  old : Below p w wr

theorem NewW.step {w wr w1 w3 : World} {T p : Nat} {zs : List Int} {k : Nat} {g : Nat → Nat} {rv rv' : Value} (h : NewW w T p zs k g rv wr) (n : Nat) (hn : (zs.getD k 0).toNat = n)
    (hm : w1.ownsRow 0 74 12 (.slice (some ⟨wr.heap.size, 0, none⟩) n n) n (madeCells z12 (n * 12)).toList) (hg1 : wr.drew.grownBy w1 none)
    (o : Obj) (hown : w3.ownsRow (p + 1) 89 1 rv' (k + 1) ((List.range k).map (regV g zs) ++ [.slice (some ⟨wr.heap.size, 0, none⟩) n n])) (hg3 : (w1.alloc o).grownBy w3 rv.ownBlock)
    (hat : rv'.ownBlock = rv.ownBlock ∨ rv'.ownBlock = some (w1.heap.size + 1)) :
    NewW w T p zs (k + 1) (fun i => if i = k then wr.heap.size else g i) rv' (w3.setCell ⟨p, 0, none⟩ rv') := by
  have hp : p < wr.heap.size := h.box.lt
  have hs1 : wr.heap.size + 1 ≤ w1.heap.size := by
    have := (hm.lt wr.heap.size rfl).2
    omega
  have hs3 : w1.heap.size + 1 ≤ w3.heap.size := by have := hg3.size; rw [World.size_alloc] at this; exact this
  have hb : ∀ j, j < wr.heap.size → some j ≠ rv.ownBlock → w3.heap[j]? = wr.heap[j]? := fun j hj hn =>
    (hg3.block j (by rw [World.size_alloc]; omega) hn).trans ((Below.heap_alloc w1 o j (by omega)).trans (hg1.block j hj (by simp)))
  have hrv : ∀ j, rv.ownBlock = some j → p + 1 ≤ j ∧ j < wr.heap.size := h.row.lt
  have hnew : Blk w3 wr.heap.size (freshC n) 74 := by
    have h1 : Blk w1 wr.heap.size (freshC n) 74 := by
      rcases hm.2 with ⟨h2, _⟩ | ⟨b, cap, cur, h2, _, hb2, _, _, hsz, ht⟩
      · simp at h2
      · simp at h2
        obtain ⟨h3, h4⟩ := h2
        subst h3 h4
        rw [← hsz] at ht
        have : cur = freshC n := by
          rw [← made_fresh]
          apply Array.toList_inj.1
          rw [List.take_of_length_le (by simp)] at ht
          rw [ht, hsz]
        rw [← this]
        exact hb2
    exact Blk_keep (h1.alloc o) (hg3.block _ (by rw [World.size_alloc]; omega) (fun e => by have := (hrv _ e.symm).2; omega))
  have hpe : ∀ j, rv'.ownBlock = some j → j ≠ p := fun j hj => by have := (hown.lt j hj).1; omega
  have hk : (List.range (k + 1)).map (regV (fun i => if i = k then wr.heap.size else g i) zs) = (List.range k).map (regV g zs) ++ [.slice (some ⟨wr.heap.size, 0, none⟩) n n] := by
    rw [List.range_succ, List.map_append]
    congr 1
    · refine List.map_congr_left fun i hi => ?_
      have := List.mem_range.1 hi
      simp only [regV, if_neg (show i ≠ k by omega)]
    · simp only [List.map_cons, List.map_nil, regV, if_true, hn]
  exact {
    box := by
      have := (Blk_keep h.box (hb p hp (fun e => by have := (hrv p e.symm).1; omega))).set 0 rv'
      exact this
    row := by
      rw [hk]
      exact ownsRow_keep hown fun j hj => Below.heap_setCell w3 _ _ j (hpe j hj)
    cells := fun i hi => by
      by_cases e : i = k
      · subst e
        simp only [if_true]
        rw [hn]
        exact hnew.other _ _ (by show wr.heap.size ≠ p; omega)
      · simp only [if_neg e]
        have hi' : i < k := by omega
        have := h.gp i hi'
        exact (Blk_keep (h.cells i hi') (hb _ (h.cells i hi').lt (fun e => h.gr i hi' e.symm))).other _ _ (by show g i ≠ p; omega)
    gp := fun i hi => by
      by_cases e : i = k
      · simp only [if_pos e]; exact hp
      · simp only [if_neg e]; exact h.gp i (by omega)
    gr := fun i hi => by
      have h0 : rv'.ownBlock ≠ some wr.heap.size ∧ ∀ i, i < k → rv'.ownBlock ≠ some (g i) := by
        rcases hat with e | e
        · rw [e]; exact ⟨fun e2 => by have := (hrv _ e2).2; omega, h.gr⟩
        · rw [e]; exact ⟨fun e2 => by injection e2 with e2; omega, fun i hi e2 => by injection e2 with e2; have := (h.cells i hi).lt; omega⟩
      by_cases e : i = k
      · simp only [if_pos e]; exact h0.1
      · simp only [if_neg e]; exact h0.2 i (by omega)
    gg := fun i j hi hj e => by
      by_cases ei : i = k
      · by_cases ej : j = k
        · omega
        · simp only [if_pos ei, if_neg ej] at e
          have := (h.cells j (by omega)).lt
          omega
      · by_cases ej : j = k
        · simp only [if_neg ei, if_pos ej] at e
          have := (h.cells i (by omega)).lt
          omega
        · simp only [if_neg ei, if_neg ej] at e
          exact h.gg i j (by omega) (by omega) e
    old := by
      have h1 : Below p w w3 := ⟨hg3.os.trans (hg1.os.trans h.old.os), hg3.tape.trans (hg1.tape.trans h.old.tape), hg3.output.trans (hg1.output.trans h.old.output), by have := h.old.size; omega, fun j hj =>
        (hb j (by omega) (fun e => by have := (hrv j e.symm).1; omega)).trans (h.old.block j hj)⟩
      exact h1.setCell (by show p ≤ p; omega) _ }

theorem NewW.done {w wr : World} {T p : Nat} {zs : List Int} {g : Nat → Nat} {rv : Value} (h : NewW w T p zs zs.length g rv wr) (hok : Mm.newOk zs = true) (hp : p = w.heap.size) :
    ∃ F, MemRep wr T p (Mm.fresh zs) F ∧ ∀ k, F k → w.heap.size ≤ k := by
  have hfo := Mm.fresh_ok hok
  have hlen : (Mm.fresh zs).regs.length = zs.length := by simp [Mm.fresh]
  have hreg : ∀ i (hi : i < zs.length), (Mm.fresh zs).regs[i]'(by rw [hlen]; exact hi) = List.replicate (zs.getD i 0).toNat zeros := fun i hi => by simp [Mm.fresh, List.getD, hi]
  rcases h.row.2 with ⟨h1, h0⟩ | ⟨rb, cap, cur, rfl, hb, hg, hn, hm, hsz, ht⟩
  · have := hfo.2.2
    omega
  have hrbl := lt_of_block hg
  refine ⟨fun k => p ≤ k ∧ k < wr.heap.size, ⟨rb, cap, cur, g, .slice none 0 0, ?_⟩, fun k hk => by omega⟩
  exact {
    box := by rw [hlen]; exact h.box
    row := hg
    capn := by omega
    lecap := by omega
    capm := hm
    slot := fun i hi => by
      rw [hlen] at hi
      have h2 : cur.toList[i]? = some (regV g zs i) := by
        have h3 : ((List.range zs.length).map (regV g zs))[i]? = some (regV g zs i) := by simp [hi]
        rw [← ht, List.getElem?_take] at h3
        split at h3
        · exact h3
        · simp at h3
      rw [hreg i hi, List.length_replicate]
      simpa [regV] using h2
    cells := fun i hi => by
      rw [hlen] at hi
      rw [hreg i hi]
      exact h.cells i hi
    evs := World.ownsRow_nil _ _ _ _
    inP := ⟨Nat.le_refl _, h.box.lt⟩
    inR := ⟨by omega, hrbl⟩
    inG := fun i hi => ⟨by have := h.gp i (by omega); omega, (h.cells i (by omega)).lt⟩
    inE := fun k hk => by simp [Value.ownBlock] at hk
    pr := by omega
    pg := fun i hi => by have := h.gp i (by omega); omega
    rg := fun i hi e => h.gr i (by omega) (by simp [Value.ownBlock, e])
    gg := fun i j hi hj => h.gg i j (by omega) (by omega)
    pe := fun k hk => by simp [Value.ownBlock] at hk
    lt := fun k hk => hk.2
    ok := hfo }
end Go.Proofs.YthchfdobdghdoaaGreat
end
section

/-
  The walks of New, of both memories.
-/
namespace Go.Proofs.YthchfdobdghdoaaGreat
open Go.RowKit Go.Sg

theorem wrong_any (n : Int) (w : World) : Calls Tryz.prog 43 #[.int .i64 n] w fun e w' => e = .returned (.bool (Mm.bad n)) ∧ w' = w := by
  have HV : Hid (Mm.bad n = (decide (n < 1) || decide (4096 < n))) := Lib.hid rfl
  generalize Mm.bad n = x at *
  by_cases h1 : n < 1
  · have b1 : decide (n < 1) = true := decide_eq_true h1
    rw [b1, Bool.true_or] at HV
    obtain rfl : x = true := HV.out
    clear HV
    go_enter Tryz.func43, Tryz.ntmps43
    go_wp2
    go_ret
    exact ⟨rfl, rfl⟩
  · have b1 : decide (n < 1) = false := decide_eq_false h1
    rw [b1, Bool.false_or] at HV
    obtain rfl : x = decide (4096 < n) := HV.out
    clear HV
    go_enter Tryz.func43, Tryz.ntmps43
    go_wp2
    all_goals
      go_ret
      exact ⟨congrArg (fun b => Ending.returned (Value.bool b)) (by simp [*]), rfl⟩

set_option maxRecDepth 100000 in
theorem indexWrong_any (v : Value) (zs : List Int) (w : World) (h : Sl1 w v (ints zs)) : Calls Tryz.prog 67 #[v, .func (.func 43) #[] #[]] w fun e w' => (∃ k : Int, e = .returned (.int .i64 k) ∧ decide (0 ≤ k) = zs.any Mm.bad) ∧ w' = w := by
  rcases h with ⟨e1, a1, cap1, rfl⟩ | ⟨n1, b1, off1, cap1, rfl, hl1, hm1, hlt1, hc1⟩
  · have ea : zs = [] := by simpa [ints] using e1
    subst ea
    clear e1
    go_enter Tryz.func67, Tryz.ntmps67
    go_wp2
    go_loop [8] (fun i => i = .int .i64 0) (fun _ => 0)
    case atStart => rfl
    case round =>
      subst hrel
      go_wp2
      go_ret
      exact ⟨⟨-1, rfl, by simp⟩, rfl⟩
  · have C1 : Hid (∀ i (h : i < zs.length), w.cell? ⟨b1, off1 + i, none⟩ = some (.int .i64 zs[i])) := Lib.hid fun i h => (hc1 i (by rw [ints_len]; exact h)).trans (by simp [ints])
    rw [ints_len] at hl1 ⊢
    have hmx : zs.length ≤ maxLen := by omega
    unfold maxLen at hmx
    clear n1 hc1 hl1 hm1 hlt1
    go_enter Tryz.func67, Tryz.ntmps67
    go_wp2
    go_loop [8] (fun i => ∃ k : Nat, k ≤ zs.length ∧ i = .int .i64 k ∧ Hid (∀ r (h : r < zs.length), r < k → Mm.bad zs[r] = false)) (fun i => zs.length - (intOf i).toNat)
    case atStart => exact ⟨0, by omega, rfl, Lib.hid fun r _ h => by omega⟩
    case round =>
      obtain ⟨k, hk, rfl, HE⟩ := hrel
      by_cases hlt : k < zs.length
      · have ck := C1.out k hlt
        have K := Lib.hid (wrong_any zs[k])
        cases hb : Mm.bad zs[k] with
        | true =>
          rw [hb] at K
          have HAny : Hid (zs.any Mm.bad = true) := Lib.hid (List.any_eq_true.2 ⟨_, List.getElem_mem hlt, hb⟩)
          generalize zs[k] = x at *
          clear hb
          go_wp2_with (go_at_call 43; (with_reducible refine (K.out _).mono ?_); rintro _ w' ⟨rfl, rfl⟩)
          go_ret
          exact ⟨⟨k, rfl, by rw [HAny.out]; exact decide_eq_true (by omega)⟩, rfl⟩
        | false =>
          rw [hb] at K
          have HB := Lib.hid hb
          have HX : Hid (∀ r (h : r < zs.length), r < k + 1 → Mm.bad zs[r] = false) := Lib.hid fun r h hr => by
            rcases Nat.lt_or_ge r k with h2 | h2
            · exact HE.out r h h2
            · obtain rfl : r = k := by omega
              exact HB.out
          generalize zs[k] = x at *
          clear hb
          go_wp2_with (go_at_call 43; (with_reducible refine (K.out _).mono ?_); rintro _ w' ⟨rfl, rfl⟩)
          go_round
          case rel => exact ⟨k + 1, by omega, by go_num, HX⟩
          case measure => simp [intOf]; omega
      · have HAny : Hid (zs.any Mm.bad = false) := Lib.hid (by
          rw [List.any_eq_false]
          intro x hx
          obtain ⟨r, hr, rfl⟩ := List.getElem_of_mem hx
          rw [HE.out r hr (by omega)]
          simp)
        go_wp2
        go_ret
        exact ⟨⟨-1, rfl, by rw [HAny.out]; rfl⟩, rfl⟩

theorem containsWrong_any (v : Value) (zs : List Int) (w : World) (h : Sl1 w v (ints zs)) : Calls Tryz.prog 44 #[v, .func (.func 43) #[] #[]] w fun e w' => e = .returned (.bool (zs.any Mm.bad)) ∧ w' = w := by
  have K := Lib.hid (indexWrong_any v zs w h)
  clear h
  go_enter Tryz.func44, Tryz.ntmps44
  go_wp2_with fail
  refine K.out.mono ?_
  rintro _ w' ⟨⟨k, rfl, hk⟩, rfl⟩
  go_wp2
  go_ret
  exact ⟨rfl, rfl⟩

/-- How New ends. -/
def NewRet (T : Nat) (zs : List Int) (w : World) (e : Ending) (w' : World) : Prop :=
  Below w.heap.size w w' ∧ ((Mm.newOk zs = false ∧ e = .returned (.tuple #[.pointer none, .int .i64 1])) ∨
    (Mm.newOk zs = true ∧ ∃ p F, e = .returned (.tuple #[.pointer (some ⟨p, 0, none⟩), .int .i64 0]) ∧ MemRep w' T p (Mm.fresh zs) F ∧ ∀ k, F k → w.heap.size ≤ k))

set_option maxRecDepth 100000 in
theorem memNew_any (v : Value) (zs : List Int) (w : World) (h : Sl1 w v (ints zs)) : Calls Tryz.prog 11 #[v] w (NewRet 88 zs w) := by
  have K := Lib.hid (fun w' => containsWrong_any v zs w')
  have H := Lib.hid h
  obtain ⟨ao, cap0, rfl⟩ : ∃ a c, v = .slice a zs.length c := by have := h.len; rwa [ints_len] at this
  have hlm : zs.length ≤ maxLen := by have := h.len_le; rw [ints_len] at this; exact this
  unfold maxLen at hlm
  by_cases hok : Mm.newOk zs = true
  · have hok2 := hok
    simp only [Mm.newOk, Bool.and_eq_true, decide_eq_true_eq, Bool.not_eq_true'] at hok2
    obtain ⟨⟨g1, g2⟩, g3⟩ := hok2
    have HN := Lib.hid hok
    have HG3 := Lib.hid g3
    have K2 := Lib.hid (K.out _ H.out)
    rw [g3] at K2
    have b1 : decide ((zs.length : Int) < 1) = false := decide_eq_false (by omega)
    have b2 : decide (16 < (zs.length : Int)) = false := decide_eq_false (by omega)
    rcases h with ⟨e1, _⟩ | ⟨n1, bb, off, cap, hve, hl1, hm1, hlt1, hc1⟩
    · exfalso
      have := congrArg List.length e1
      rw [ints_len] at this
      simp at this
      subst this
      simp at g1
    rw [ints_len] at hve
    simp only [Value.slice.injEq] at hve
    obtain ⟨rfl, _, rfl⟩ := hve
    have C1 : Hid (∀ i (h : i < zs.length), w.cell? ⟨bb, off + i, none⟩ = some (.int .i64 zs[i])) := Lib.hid fun i h => (hc1 i (by rw [ints_len]; exact h)).trans (by simp [ints])
    have HL := Lib.hid hlt1
    obtain ⟨i0, hi0, hz0, hz1, hz2⟩ := info_parts info_cell
    have HI := Lib.hid hi0
    have HZ := Lib.hid hz0
    have HS := Lib.hid hz1
    have HY := Lib.hid hz2
    obtain ⟨i1, hi0, hz0, hz1, hz2⟩ := info_parts info_reg
    have HI1 := Lib.hid hi0
    have HZ1 := Lib.hid hz0
    have HS1 := Lib.hid hz1
    have HY1 := Lib.hid hz2
    clear hok K g3 hi0 hz0 hz1 hz2 hc1 n1 hlt1 hl1 hm1
    go_enter Tryz.func11, Tryz.ntmps11
    go_wp2_with (go_at_call 44; (with_reducible refine (K2.out).mono ?_); rintro _ w' ⟨rfl, rfl⟩)
    go_loopw [25] (fun i wr => ∃ k : Nat, k ≤ zs.length ∧ i = .int .i64 k ∧ Hid (∃ g rv, NewW w' 88 w'.heap.size zs k g rv wr)) (fun i _ => zs.length - (intOf i).toNat)
    case atStart =>
      refine ⟨0, by omega, rfl, Lib.hid ⟨fun _ => 0, .slice none 0 0, ?_⟩⟩
      exact {
        box := Blk.new w' _ _
        row := World.ownsRow_nil _ _ _ _
        cells := fun i hi => by omega
        gp := fun i hi => by omega
        gr := fun i hi => by omega
        gg := fun i j hi => by omega
        old := (Below.refl _ _).alloc (Nat.le_refl _) _ }
    case round =>
      obtain ⟨k, hk, rfl, HW⟩ := hrel
      by_cases hlt : k < zs.length
      · obtain ⟨g, rv, hW⟩ := HW.out
        have hck : wr.cell? ⟨bb, off + k, none⟩ = some (.int .i64 zs[k]) := by rw [hW.old.cell HL.out]; exact C1.out k hlt
        have hbad : Mm.bad zs[k] = false := by
          have := List.any_eq_false.1 HG3.out _ (List.getElem_mem hlt)
          simpa using this
        simp [Mm.bad] at hbad
        obtain ⟨q0, q1⟩ := hbad
        obtain ⟨n, hn⟩ : ∃ n : Nat, zs[k] = n := ⟨zs[k].toNat, by omega⟩
        have hgd : (zs.getD k 0).toNat = n := by simp [List.getD, hlt, hn]
        rw [hn] at hck q0 q1
        have cp : wr.drew.cell? ⟨w'.heap.size, 0, none⟩ = some rv := by rw [World.cell?_drew, hW.box.cell]; rfl
        have HW2 := Lib.hid hW
        have HGD := Lib.hid hgd
        obtain ⟨ra, rc, hrv⟩ := owns_slice hW.row
        clear hW hn hgd
        go_wp2_with fail
        subst hrv
        have HRO : Hid (wr.ownsRow (w'.heap.size + 1) 89 1 (.slice ra k rc) k ((List.range k).map (regV g zs))) := Lib.hid HW2.out.row
        have hpl := HW2.out.box.lt
        have hmk := fun w => run_make_cells (P := Tryz.prog) 89 74 i0 z12 12 Tryz.underlying89 HI.out HZ.out HS.out 96 HY.out .i64 .i64 n (by omega) (by omega) w
        have hc1 : ∀ j u, [Value.slice (some ⟨wr.heap.size, 0, none⟩) n n][j]? = some u → ((wr.alloc (.cells (madeCells z12 (n * 12)) 74)).alloc (.cells #[.slice (some ⟨wr.heap.size, 0, none⟩) n n] 89)).cell? ((⟨wr.heap.size + 1, 0, none⟩ : Addr).add j) = some u := fun j u hu => by
          have := cell_one_new (wr.alloc (.cells (madeCells z12 (n * 12)) 74)) _ 89 j u hu
          rw [World.size_alloc] at this
          exact this
        have HC1 := Lib.hid hc1
        clear hc1
        have HKP : Hid (∀ w3, (((wr.alloc (.cells (madeCells z12 (n * 12)) 74)).alloc (.cells #[.slice (some ⟨wr.heap.size, 0, none⟩) n n] 89)).drew).grownBy w3 (Value.slice ra k rc).ownBlock →
            w3.cell? ⟨w'.heap.size, 0, none⟩ = some (.slice ra k rc) ∧ w3.frozen? ⟨w'.heap.size, 0, none⟩ = false) := Lib.hid fun w3 hg => by
          have hne : some w'.heap.size ≠ (Value.slice ra k rc).ownBlock := fun e => by have := (HRO.out.lt _ e.symm).1; omega
          have hb : w3.heap[w'.heap.size]? = wr.heap[w'.heap.size]? := (hg.block _ (by show w'.heap.size < ((wr.alloc _).alloc _).heap.size; rw [World.size_alloc, World.size_alloc]; omega) hne).trans
            ((Below.heap_alloc (wr.alloc _) _ _ (by rw [World.size_alloc]; omega)).trans (Below.heap_alloc wr _ _ hpl))
          have hbk := Blk_keep HW2.out.box hb
          exact ⟨by rw [hbk.cell]; rfl, hbk.free 0⟩
        have hbA := HW2.out.box.alloc (.cells (madeCells z12 (n * 12)) 74)
        have hbB := hbA.alloc (.cells #[.slice (some ⟨wr.heap.size, 0, none⟩) n n] 89)
        have cp1 : (wr.alloc (.cells (madeCells z12 (n * 12)) 74)).cell? ⟨w'.heap.size, 0, none⟩ = some (.slice ra k rc) := by rw [hbA.cell]; rfl
        have cp2 : ((wr.alloc (.cells (madeCells z12 (n * 12)) 74)).alloc (.cells #[.slice (some ⟨wr.heap.size, 0, none⟩) n n] 89)).cell? ⟨w'.heap.size, 0, none⟩ = some (.slice ra k rc) := by rw [hbB.cell]; rfl
        have cp3 : (wr.alloc (.cells (madeCells z12 (n * 12)) 74)).drew.cell? ⟨w'.heap.size, 0, none⟩ = some (.slice ra k rc) := cp1
        have cp4 : ((wr.alloc (.cells (madeCells z12 (n * 12)) 74)).alloc (.cells #[.slice (some ⟨wr.heap.size, 0, none⟩) n n] 89)).drew.cell? ⟨w'.heap.size, 0, none⟩ = some (.slice ra k rc) := cp2
        clear hbA hbB
        go_region_law (first
          | (go_loud (refine step_append_own_at rfl (.tmp 33) (.tmp 36) 69 rfl (w'.heap.size + 1) 89 i1 (.slice none 0 0) 1 24 Tryz.underlying69 HI1.out HZ1.out HS1.out HY1.out rfl (by decide) (.slice ra k rc) k _ rfl ((HRO.out.alloc (.cells (madeCells z12 (n * 12)) 74)).alloc (.cells #[.slice (some ⟨wr.heap.size, 0, none⟩) n n] 89)) ⟨wr.heap.size + 1, 0, none⟩ 1 1 [.slice (some ⟨wr.heap.size, 0, none⟩) n n] rfl rfl HC1.out (by simp [Value.oneCell']) (by unfold maxLen; omega) (by omega) (by simp; omega) ?_); intro rv' w3 hown hgrow hat; obtain ⟨c3, f3⟩ := HKP.out w3 hgrow; obtain ⟨ra', rc', hrv'⟩ := owns_slice hown; subst hrv'))
        all_goals
          have HX := Lib.hid (HW2.out.step n HGD.out (w1 := (wr.alloc (.cells (madeCells z12 (n * 12)) 74)).drew) ⟨by simp [size_madeCells], .inr ⟨wr.heap.size, n, madeCells z12 (n * 12), rfl, Nat.zero_le _, heap_alloc_new wr _, Nat.le_refl _, by unfold maxLen; omega, size_madeCells _ _, List.take_of_length_le (by simp [size_madeCells])⟩⟩
            ⟨rfl, rfl, rfl, by simp, fun j hj _ => Below.heap_alloc wr _ j hj⟩ (.cells #[.slice (some ⟨wr.heap.size, 0, none⟩) n n] 89) hown hgrow (by simpa using hat))
          clear hown hgrow hat
          go_wp2
          go_roundw
          case rel => exact ⟨k + 1, by omega, by go_num, Lib.hid ⟨_, _, HX.out⟩⟩
          case measure => simp [intOf]; omega
      · obtain ⟨g, rv, hW⟩ := HW.out
        obtain rfl : k = zs.length := by omega
        have hR := hW.done HN.out rfl
        have hbel := hW.old
        have HR := Lib.hid hR
        have HBL := Lib.hid hbel
        clear hW hR hbel
        go_wp2
        go_ret2
        obtain ⟨F, h1, h2⟩ := HR.out
        exact ⟨HBL.out, .inr ⟨HN.out, w'.heap.size, F, rfl, h1, h2⟩⟩
  · have HN : Hid (Mm.newOk zs = false) := Lib.hid (by simpa using hok)
    have hcs : zs.length < 1 ∨ 16 < zs.length ∨ zs.any Mm.bad = true := by
      rcases Nat.lt_or_ge zs.length 1 with h1 | h1
      · exact .inl h1
      · rcases Nat.lt_or_ge 16 zs.length with h2 | h2
        · exact .inr (.inl h2)
        · right; right
          cases ha : zs.any Mm.bad with
          | true => rfl
          | false => exact absurd (by simp [Mm.newOk, h1, h2, ha]) hok
    by_cases h1 : zs.length < 1
    · have b1 : decide ((zs.length : Int) < 1) = true := decide_eq_true (by omega)
      have b2 : zs.length = 0 := by omega
      clear hcs hok h
      rw [b2] at *
      go_enter Tryz.func11, Tryz.ntmps11
      go_wp2
      go_ret2
      exact ⟨Below.refl _ _, .inl ⟨HN.out, rfl⟩⟩
    · have b1 : decide ((zs.length : Int) < 1) = false := decide_eq_false (by omega)
      by_cases h2 : 16 < zs.length
      · have b2 : decide (16 < (zs.length : Int)) = true := decide_eq_true (by omega)
        clear hcs hok h
        go_enter Tryz.func11, Tryz.ntmps11
        go_wp2
        go_ret2
        exact ⟨Below.refl _ _, .inl ⟨HN.out, rfl⟩⟩
      · have b2 : decide (16 < (zs.length : Int)) = false := decide_eq_false (by omega)
        have ha : zs.any Mm.bad = true := by rcases hcs with h3 | h3 | h3 <;> first | omega | exact h3
        have K2 := Lib.hid (K.out _ H.out)
        rw [ha] at K2
        clear hcs hok ha h K
        go_enter Tryz.func11, Tryz.ntmps11
        go_wp2_with (go_at_call 44; (with_reducible refine (K2.out).mono ?_); rintro _ w' ⟨rfl, rfl⟩)
        go_ret2
        exact ⟨Below.refl _ _, .inl ⟨HN.out, rfl⟩⟩

set_option maxRecDepth 100000 in
theorem ref3New_any (v : Value) (zs : List Int) (w : World) (h : Sl1 w v (ints zs)) : Calls Tryz.prog 14 #[v] w (NewRet 71 zs w) := by
  obtain ⟨ao, cap0, rfl⟩ : ∃ a c, v = .slice a zs.length c := by have := h.len; rwa [ints_len] at this
  have hlm : zs.length ≤ maxLen := by have := h.len_le; rw [ints_len] at this; exact this
  unfold maxLen at hlm
  by_cases h1 : zs.length < 1
  · have b1 : decide ((zs.length : Int) < 1) = true := decide_eq_true (by omega)
    have b2 : zs.length = 0 := by omega
    have HN : Hid (Mm.newOk zs = false) := Lib.hid (by simp [Mm.newOk, b2])
    clear h
    rw [b2] at *
    go_enter Tryz.func14, Tryz.ntmps14
    go_wp2
    go_ret2
    exact ⟨Below.refl _ _, .inl ⟨HN.out, rfl⟩⟩
  · have b1 : decide ((zs.length : Int) < 1) = false := decide_eq_false (by omega)
    by_cases h2 : 16 < zs.length
    · have b2 : decide (16 < (zs.length : Int)) = true := decide_eq_true (by omega)
      have HN : Hid (Mm.newOk zs = false) := Lib.hid (by simp [Mm.newOk]; omega)
      clear h
      go_enter Tryz.func14, Tryz.ntmps14
      go_wp2
      go_ret2
      exact ⟨Below.refl _ _, .inl ⟨HN.out, rfl⟩⟩
    · have b2 : decide (16 < (zs.length : Int)) = false := decide_eq_false (by omega)
      have g1 : 1 ≤ zs.length := by omega
      have g2 : zs.length ≤ 16 := by omega
      rcases h with ⟨e1, _⟩ | ⟨n1, bb, off, cap, hve, hl1, hm1, hlt1, hc1⟩
      · exfalso
        have := congrArg List.length e1
        rw [ints_len] at this
        simp at this
        subst this
        simp at g1
      rw [ints_len] at hve
      simp only [Value.slice.injEq] at hve
      obtain ⟨rfl, _, rfl⟩ := hve
      have C1 : Hid (∀ i (h : i < zs.length), w.cell? ⟨bb, off + i, none⟩ = some (.int .i64 zs[i])) := Lib.hid fun i h => (hc1 i (by rw [ints_len]; exact h)).trans (by simp [ints])
      have HL := Lib.hid hlt1
      obtain ⟨i0, hi0, hz0, hz1, hz2⟩ := info_parts info_cell
      have HI := Lib.hid hi0
      have HZ := Lib.hid hz0
      have HS := Lib.hid hz1
      have HY := Lib.hid hz2
      obtain ⟨i1, hi0, hz0, hz1, hz2⟩ := info_parts info_reg
      have HI1 := Lib.hid hi0
      have HZ1 := Lib.hid hz0
      have HS1 := Lib.hid hz1
      have HY1 := Lib.hid hz2
      clear hi0 hz0 hz1 hz2 hc1 n1 hlt1 hl1 hm1
      have e0 : w.heap.size = w.heap.size := rfl
      go_enter Tryz.func14, Tryz.ntmps14
      go_wp2
      go_loopw [5] (fun i wr => ∃ k : Nat, k ≤ zs.length ∧ i = .int .i64 k ∧ Hid (∀ r (h : r < zs.length), r < k → Mm.bad zs[r] = false) ∧ Hid (∃ g rv, NewW w 71 w.heap.size zs k g rv wr)) (fun i _ => zs.length - (intOf i).toNat)
      case atStart =>
        refine ⟨0, by omega, rfl, Lib.hid (fun r _ h => by omega), Lib.hid ⟨fun _ => 0, .slice none 0 0, ?_⟩⟩
        exact {
          box := Blk.new w _ _
          row := World.ownsRow_nil _ _ _ _
          cells := fun i hi => by omega
          gp := fun i hi => by omega
          gr := fun i hi => by omega
          gg := fun i j hi => by omega
          old := (Below.refl _ _).alloc (Nat.le_refl _) _ }
      case round =>
        obtain ⟨k, hk, rfl, HE, HW⟩ := hrel
        by_cases hlt : k < zs.length
        · obtain ⟨g, rv, hW⟩ := HW.out
          have hck : wr.cell? ⟨bb, off + k, none⟩ = some (.int .i64 zs[k]) := by rw [hW.old.cell HL.out]; exact C1.out k hlt
          cases hbad : Mm.bad zs[k] with
          | true =>
            have HN : Hid (Mm.newOk zs = false) := Lib.hid (by
              have : zs.any Mm.bad = true := List.any_eq_true.2 ⟨_, List.getElem_mem hlt, hbad⟩
              simp [Mm.newOk, this])
            have HBL := Lib.hid hW.old
            simp only [Mm.bad, Bool.or_eq_true, decide_eq_true_eq] at hbad
            generalize zs[k] = x at *
            clear hW
            by_cases hx1 : x < 1
            · have d1 : decide (x < 1) = true := decide_eq_true hx1
              go_wp2
              go_ret2
              exact ⟨HBL.out, .inl ⟨HN.out, rfl⟩⟩
            · have d1 : decide (x < 1) = false := decide_eq_false hx1
              have d2 : decide (4096 < x) = true := decide_eq_true (by omega)
              go_wp2
              go_ret2
              exact ⟨HBL.out, .inl ⟨HN.out, rfl⟩⟩
          | false =>
          have HB := Lib.hid hbad
          have HEX : Hid (∀ r (h : r < zs.length), r < k + 1 → Mm.bad zs[r] = false) := Lib.hid fun r h hr => by
            rcases Nat.lt_or_ge r k with h2 | h2
            · exact HE.out r h h2
            · obtain rfl : r = k := by omega
              exact HB.out
          simp [Mm.bad] at hbad
          obtain ⟨q0, q1⟩ := hbad
          obtain ⟨n, hn⟩ : ∃ n : Nat, zs[k] = n := ⟨zs[k].toNat, by omega⟩
          have hgd : (zs.getD k 0).toNat = n := by simp [List.getD, hlt, hn]
          rw [hn] at hck q0 q1
          have d1 : decide ((n : Int) < 1) = false := decide_eq_false (by omega)
          have d2 : decide (4096 < (n : Int)) = false := decide_eq_false (by omega)
          have hckd : wr.drew.cell? ⟨bb, off + k, none⟩ = some (.int .i64 (n : Int)) := hck
          have cp : wr.drew.cell? ⟨w.heap.size, 0, none⟩ = some rv := by rw [World.cell?_drew, hW.box.cell]; rfl
          have HW2 := Lib.hid hW
          have HGD := Lib.hid hgd
          obtain ⟨ra, rc, hrv⟩ := owns_slice hW.row
          clear hW hn hgd
          go_wp2_with fail
          subst hrv
          have HRO : Hid (wr.ownsRow (w.heap.size + 1) 89 1 (.slice ra k rc) k ((List.range k).map (regV g zs))) := Lib.hid HW2.out.row
          have hpl := HW2.out.box.lt
          have hmk := fun w => run_make_cells (P := Tryz.prog) 89 74 i0 z12 12 Tryz.underlying89 HI.out HZ.out HS.out 96 HY.out .i64 .i64 n (by omega) (by omega) w
          have hc1 : ∀ j u, [Value.slice (some ⟨wr.heap.size, 0, none⟩) n n][j]? = some u → ((wr.alloc (.cells (madeCells z12 (n * 12)) 74)).alloc (.cells #[.slice (some ⟨wr.heap.size, 0, none⟩) n n] 89)).cell? ((⟨wr.heap.size + 1, 0, none⟩ : Addr).add j) = some u := fun j u hu => by
            have := cell_one_new (wr.alloc (.cells (madeCells z12 (n * 12)) 74)) _ 89 j u hu
            rw [World.size_alloc] at this
            exact this
          have HC1 := Lib.hid hc1
          clear hc1
          have HKP : Hid (∀ w3, (((wr.alloc (.cells (madeCells z12 (n * 12)) 74)).alloc (.cells #[.slice (some ⟨wr.heap.size, 0, none⟩) n n] 89)).drew).grownBy w3 (Value.slice ra k rc).ownBlock →
              w3.cell? ⟨w.heap.size, 0, none⟩ = some (.slice ra k rc) ∧ w3.frozen? ⟨w.heap.size, 0, none⟩ = false) := Lib.hid fun w3 hg => by
            have hne : some w.heap.size ≠ (Value.slice ra k rc).ownBlock := fun e => by have := (HRO.out.lt _ e.symm).1; omega
            have hb : w3.heap[w.heap.size]? = wr.heap[w.heap.size]? := (hg.block _ (by show w.heap.size < ((wr.alloc _).alloc _).heap.size; rw [World.size_alloc, World.size_alloc]; omega) hne).trans
              ((Below.heap_alloc (wr.alloc _) _ _ (by rw [World.size_alloc]; omega)).trans (Below.heap_alloc wr _ _ hpl))
            have hbk := Blk_keep HW2.out.box hb
            exact ⟨by rw [hbk.cell]; rfl, hbk.free 0⟩
          have hbA := HW2.out.box.alloc (.cells (madeCells z12 (n * 12)) 74)
          have hbB := hbA.alloc (.cells #[.slice (some ⟨wr.heap.size, 0, none⟩) n n] 89)
          have cp1 : (wr.alloc (.cells (madeCells z12 (n * 12)) 74)).cell? ⟨w.heap.size, 0, none⟩ = some (.slice ra k rc) := by rw [hbA.cell]; rfl
          have cp2 : ((wr.alloc (.cells (madeCells z12 (n * 12)) 74)).alloc (.cells #[.slice (some ⟨wr.heap.size, 0, none⟩) n n] 89)).cell? ⟨w.heap.size, 0, none⟩ = some (.slice ra k rc) := by rw [hbB.cell]; rfl
          have cp3 : (wr.alloc (.cells (madeCells z12 (n * 12)) 74)).drew.cell? ⟨w.heap.size, 0, none⟩ = some (.slice ra k rc) := cp1
          have cp4 : ((wr.alloc (.cells (madeCells z12 (n * 12)) 74)).alloc (.cells #[.slice (some ⟨wr.heap.size, 0, none⟩) n n] 89)).drew.cell? ⟨w.heap.size, 0, none⟩ = some (.slice ra k rc) := cp2
          clear hbA hbB
          go_region_law (first
            | (go_loud (refine step_append_own_at rfl (.tmp 38) (.tmp 44) 69 rfl (w.heap.size + 1) 89 i1 (.slice none 0 0) 1 24 Tryz.underlying69 HI1.out HZ1.out HS1.out HY1.out rfl (by decide) (.slice ra k rc) k _ rfl ((HRO.out.alloc (.cells (madeCells z12 (n * 12)) 74)).alloc (.cells #[.slice (some ⟨wr.heap.size, 0, none⟩) n n] 89)) ⟨wr.heap.size + 1, 0, none⟩ 1 1 [.slice (some ⟨wr.heap.size, 0, none⟩) n n] rfl rfl HC1.out (by simp [Value.oneCell']) (by unfold maxLen; omega) (by omega) (by simp; omega) ?_); intro rv' w3 hown hgrow hat; obtain ⟨c3, f3⟩ := HKP.out w3 hgrow; obtain ⟨ra', rc', hrv'⟩ := owns_slice hown; subst hrv'))
          all_goals
            have HX := Lib.hid (HW2.out.step n HGD.out (w1 := (wr.alloc (.cells (madeCells z12 (n * 12)) 74)).drew) ⟨by simp [size_madeCells], .inr ⟨wr.heap.size, n, madeCells z12 (n * 12), rfl, Nat.zero_le _, heap_alloc_new wr _, Nat.le_refl _, by unfold maxLen; omega, size_madeCells _ _, List.take_of_length_le (by simp [size_madeCells])⟩⟩
              ⟨rfl, rfl, rfl, by simp, fun j hj _ => Below.heap_alloc wr _ j hj⟩ (.cells #[.slice (some ⟨wr.heap.size, 0, none⟩) n n] 89) hown hgrow (by simpa using hat))
            clear hown hgrow hat
            go_wp2
            go_roundw
            case rel => exact ⟨k + 1, by omega, by go_num, HEX, Lib.hid ⟨_, _, HX.out⟩⟩
            case measure => simp [intOf]; omega
        · obtain ⟨g, rv, hW⟩ := HW.out
          obtain rfl : k = zs.length := by omega
          have HN : Hid (Mm.newOk zs = true) := Lib.hid (by
            have : zs.any Mm.bad = false := by
              rw [List.any_eq_false]
              intro x hx
              obtain ⟨r, hr, rfl⟩ := List.getElem_of_mem hx
              rw [HE.out r hr hr]
              simp
            simp [Mm.newOk, this]
            omega)
          have hR := hW.done HN.out rfl
          have hbel := hW.old
          have HR := Lib.hid hR
          have HBL := Lib.hid hbel
          clear hW hR hbel
          go_wp2
          go_ret2
          obtain ⟨F, h1, h2⟩ := HR.out
          exact ⟨HBL.out, .inr ⟨HN.out, w.heap.size, F, rfl, h1, h2⟩⟩
end Go.Proofs.YthchfdobdghdoaaGreat
end
